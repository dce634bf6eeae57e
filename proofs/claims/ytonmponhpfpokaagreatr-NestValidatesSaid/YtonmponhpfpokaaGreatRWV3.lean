/- Each Go function does what its model says; written by a program out of the translation. -/
import Derived.Test.YtonmponhpfpokaaGreatRWV2
import Derived.Test.YtonmponhpfpokaaGreatRNeMV
set_option linter.unusedVariables false
set_option linter.unusedSimpArgs false
set_option linter.unusedSectionVars false
namespace Go.Proofs.YtonmponhpfpokaaGreatR
open Go Go.VI Go.SM Go.Proofs
set_option maxRecDepth 100000
set_option maxHeartbeats 4000000
theorem W.sheetmetalref02_isWord_ok {text : ByteArray} {s1 : ByteArray} {r : Bool} (h : sheetmetalref02_isWord text s1 = some r) : PC G.P 124 [(vS text), (vS s1)] [] (vB r) [] := by
 refine pc_of G (fn := Tryz.f124) Tryz.func124 (by kernel_rfl) (by kernel_rfl) (by kernel_rfl) (by kernel_rfl) (by kernel_rfl) ?_
 refine sem_set ⟨[(0, (vS text)), (1, (vS s1))], []⟩ (by kernel_rfl) ?_
 refine z3 1 ⟨[(0, (vS text)), (1, (vS s1))], []⟩ (by kernel_rfl) ?_
 refine sem_seq (by kernel_rfl) ?_
 refine z3 1 ⟨[(0, (vS text)), (1, (vS s1)), (5, (vI 0))], []⟩ (by kernel_rfl) ?_
 refine sem_block (by kernel_rfl) ?_
 obtain ⟨x80, hx80, h⟩ := bindS h
 refine sem_loopS (fun (s55 : Int) => ⟨[(0, (vS text)), (1, (vS s1)), (5, (vI s55))], []⟩) (fun (x80 : Unit ⊕ Unit) => match x80 with | .inl j81 => (.ret, ⟨[(4, (vB true))], []⟩) | .inr j82 => (.exit 0, ⟨[], []⟩)) (sheetmetalref02_isWord_l1 text s1) 0 x80 (by kernel_rfl) (here (by kernel_rfl)) hx80 ?_ ?_ ?_
 ·intro s55 r h
  refine sem_seq (by kernel_rfl) ?_
  refine z3 8 ⟨[(0, (vS text)), (1, (vS s1)), (5, (vI s55)), (13, (vB (decide ((iadd (iadd s55 (s1.size : Int)) 2) ≤ (text.size : Int)))))], []⟩ (by kernel_rfl) ?_
  refine sem_cond (decide ((iadd (iadd s55 (s1.size : Int)) 2) ≤ (text.size : Int))) (by kernel_rfl) (by kernel_rfl) (fun hb => ?_) (fun hb => ?_)
  ·replace h := iteT hb h
   refine z4 ⟨[(0, (vS text)), (1, (vS s1)), (5, (vI s55))], []⟩ (by kernel_rfl) ?_
   refine sem_seq (by kernel_rfl) ?_
   refine sem_block (by kernel_rfl) ?_
   refine z7 (by kernel_rfl) ?_
   refine evs_run 7 (by kernel_rfl) ?_
   obtain ⟨s77, hs77, h⟩ := bindS h
   refine evs_at (at_ssl (s := text) (lo := s55) (hi := (iadd (iadd s55 (s1.size : Int)) 2)) (k1 := .i64) (k2 := .i64) (by kernel_rfl) hs77) ?_
   refine evs_run 1 (by kernel_rfl) ?_
   obtain ⟨s78, hs78, h⟩ := bindS h
   refine evs_op (st_cat (a := (ByteArray.mk #[32])) (b := s1) (by kernel_rfl) hs78) ?_
   obtain ⟨s79, hs79, h⟩ := bindS h
   refine evs_op (st_cat (a := s78) (b := (ByteArray.mk #[32])) (by kernel_rfl) hs79) ?_
   refine z1 1 ⟨[(0, (vS text)), (1, (vS s1)), (5, (vI s55)), (27, (vB (s77.toList == s79.toList)))], []⟩ (by kernel_rfl) ?_
   refine sem_cond (s77.toList == s79.toList) (by kernel_rfl) (by kernel_rfl) (fun hb => ?_) (fun hb => ?_)
   ·replace h := iteT hb h
    refine z8 1 ⟨[(4, (vB true))], []⟩ (by kernel_rfl) (fun τ hτ => ?_)
    refine bl_ret ?_
    refine th_ret ?_
    obtain rfl := Option.some.inj h
    exact lk_outS hτ rfl (here (by kernel_rfl))
   ·replace h := iteF hb h
    refine sem_skipS (by kernel_rfl) (fun τ hτ => ?_)
    refine bl_normal ?_
    refine th_normalS hτ ⟨[(0, (vS text)), (1, (vS s1)), (5, (vI s55))], []⟩ (here (by kernel_rfl)) ?_
    refine sem_region (by kernel_rfl) ?_
    refine z6 3 (by kernel_rfl) (fun τ hτ => ?_)
    obtain rfl := Option.some.inj h
    exact lk_nextS hτ (here (by kernel_rfl))
  ·replace h := iteF hb h
   refine sem_exitS 0 (by kernel_rfl) rfl (fun τ hτ => ?_)
   refine th_exit ?_
   obtain rfl := Option.some.inj h
   exact lk_outS hτ rfl (here (by kernel_rfl))
 ·intro x
  rcases x with _ | _ <;> rfl
 ·intro τ hτ
  rcases x80 with j81 | j82
  ·refine bl_ret ?_
   refine th_ret ?_
   obtain rfl := Option.some.inj h
   exact rk_ret hτ [(4, (vB true))] (here (by kernel_rfl)) (by kernel_rfl)
  ·refine bl_hit (by kernel_rfl) ?_
   refine th_normalS hτ ⟨[], []⟩ (here (by kernel_rfl)) ?_
   refine z8 1 ⟨[(4, (vB false))], []⟩ (by kernel_rfl) (fun τ hτ => ?_)
   obtain rfl := Option.some.inj h
   exact rk_ret hτ [(4, (vB false))] (here (by kernel_rfl)) (by kernel_rfl)
theorem W.sheetmetalref02_ValidName_ok {s0 : ByteArray} {r : Bool} (h : sheetmetalref02_ValidName s0 = some r) : PC G.P 93 [(vS s0)] [] (vB r) [] := by
 refine pc_of G (fn := Tryz.f93) Tryz.func93 (by kernel_rfl) (by kernel_rfl) (by kernel_rfl) (by kernel_rfl) (by kernel_rfl) ?_
 refine sem_set ⟨[(0, (vS s0))], []⟩ (by kernel_rfl) ?_
 refine z3 1 ⟨[(0, (vS s0))], []⟩ (by kernel_rfl) ?_
 refine sem_seq (by kernel_rfl) ?_
 refine sem_seq (by kernel_rfl) ?_
 obtain ⟨j11, hj11, h⟩ := bindS h
 refine sem_regionC ⟨[(0, (vS s0)), (18, (vB j11))], []⟩ (by kernel_rfl) ?_ (fun τ hτ => ?_)
 ·replace h := hj11
  refine evs_run 2 (by kernel_rfl) ?_
  obtain ⟨r12, hr12, h⟩ := bindS h
  refine evs_callP [] (by kernel_rfl) (W.sheetmetalref02_within_ok hr12) (by kernel_rfl) (.inl rfl) (by kernel_rfl) ?_
  refine evs_run 2 (by kernel_rfl) ?_
  refine evs_split r12 (fun b0 => ⟨[(0, (vS s0)), (9, (vB (!b0)))], []⟩) (by kernel_rfl) (fun hb => ?_) (fun hb => ?_)
  ·replace h := iteT hb h
   refine evs_run 1 (by kernel_rfl) ?_
   obtain ⟨x13, hx13, h⟩ := bindS h
   refine evs_at (at_sidx (s := s0) (i := 0) (kd := .i64) (by kernel_rfl) hx13) ?_
   refine evs_run 3 (by kernel_rfl) ?_
   refine evs_split (decide (x13 < 97)) (fun b0 => ⟨[(0, (vS s0)), (14, (vB b0))], []⟩) (by kernel_rfl) (fun hb => ?_) (fun hb => ?_)
   ·replace h := iteT hb h
    refine z6 4 (by kernel_rfl) (fun τ hτ => ?_)
    obtain rfl := Option.some.inj h
    exact leafC hτ (here (by kernel_rfl))
   ·replace h := iteF hb h
    refine evs_run 1 (by kernel_rfl) ?_
    obtain ⟨x14, hx14, h⟩ := bindS h
    refine evs_at (at_sidx (s := s0) (i := 0) (kd := .i64) (by kernel_rfl) hx14) ?_
    refine z6 2 (by kernel_rfl) (fun τ hτ => ?_)
    obtain rfl := Option.some.inj h
    exact leafC hτ (here (by kernel_rfl))
  ·replace h := iteF hb h
   refine z6 9 (by kernel_rfl) (fun τ hτ => ?_)
   obtain rfl := Option.some.inj h
   exact leafC hτ (here (by kernel_rfl))
 refine th_normalS hτ ⟨[(0, (vS s0)), (18, (vB j11))], []⟩ (here (by kernel_rfl)) ?_
 refine sem_cond j11 (by kernel_rfl) (by kernel_rfl) (fun hb => ?_) (fun hb => ?_)
 ·replace h := iteT hb h
  refine z8 1 ⟨[(2, (vB false))], []⟩ (by kernel_rfl) (fun τ hτ => ?_)
  refine th_ret ?_
  obtain rfl := Option.some.inj h
  exact rk_ret hτ [(2, (vB false))] (here (by kernel_rfl)) (by kernel_rfl)
 ·replace h := iteF hb h
  refine z4 ⟨[(0, (vS s0))], []⟩ (by kernel_rfl) ?_
  refine sem_seq (by kernel_rfl) ?_
  refine z3 1 ⟨[(0, (vS s0)), (3, (vI 0))], []⟩ (by kernel_rfl) ?_
  refine sem_block (by kernel_rfl) ?_
  obtain ⟨x142, hx142, h⟩ := bindS h
  refine sem_loopS (fun (s101 : Int) => ⟨[(0, (vS s0)), (3, (vI s101))], []⟩) (fun (x142 : Unit ⊕ Unit) => match x142 with | .inl j143 => (.ret, ⟨[(2, (vB false))], []⟩) | .inr j144 => (.exit 0, ⟨[(0, (vS s0))], []⟩)) (sheetmetalref02_ValidName_l1 s0) 0 x142 (by kernel_rfl) (here (by kernel_rfl)) hx142 ?_ ?_ ?_
  ·intro s101 r h
   refine sem_seq (by kernel_rfl) ?_
   refine z3 4 ⟨[(0, (vS s0)), (3, (vI s101)), (22, (vB (decide (s101 < (s0.size : Int)))))], []⟩ (by kernel_rfl) ?_
   refine sem_cond (decide (s101 < (s0.size : Int))) (by kernel_rfl) (by kernel_rfl) (fun hb => ?_) (fun hb => ?_)
   ·replace h := iteT hb h
    refine z4 ⟨[(0, (vS s0)), (3, (vI s101))], []⟩ (by kernel_rfl) ?_
    refine sem_seq (by kernel_rfl) ?_
    refine sem_block (by kernel_rfl) ?_
    refine sem_seq (by kernel_rfl) ?_
    obtain ⟨j134, hj134, h⟩ := bindS h
    refine sem_regionC ⟨[(0, (vS s0)), (3, (vI s101)), (4, (vB j134))], []⟩ (by kernel_rfl) ?_ (fun τ hτ => ?_)
    ·replace h := hj134
     refine evs_run 2 (by kernel_rfl) ?_
     obtain ⟨x135, hx135, h⟩ := bindS h
     refine evs_at (at_sidx (s := s0) (i := s101) (kd := .i64) (by kernel_rfl) hx135) ?_
     refine evs_run 2 (by kernel_rfl) ?_
     refine evs_split (decide (x135 ≥ 97)) (fun b0 => ⟨[(0, (vS s0)), (3, (vI s101)), (29, (vB b0))], []⟩) (by kernel_rfl) (fun hb => ?_) (fun hb => ?_)
     ·replace h := iteT hb h
      refine evs_run 2 (by kernel_rfl) ?_
      obtain ⟨x136, hx136, h⟩ := bindS h
      refine evs_at (at_sidx (s := s0) (i := s101) (kd := .i64) (by kernel_rfl) hx136) ?_
      refine z6 3 (by kernel_rfl) (fun τ hτ => ?_)
      obtain rfl := Option.some.inj h
      exact leafC hτ (here (by kernel_rfl))
     ·replace h := iteF hb h
      refine z6 6 (by kernel_rfl) (fun τ hτ => ?_)
      obtain rfl := Option.some.inj h
      exact leafC hτ (here (by kernel_rfl))
    refine th_normalS hτ ⟨[(0, (vS s0)), (3, (vI s101)), (4, (vB j134))], []⟩ (here (by kernel_rfl)) ?_
    refine sem_seq (by kernel_rfl) ?_
    obtain ⟨j139, hj139, h⟩ := bindS h
    refine sem_regionC ⟨[(0, (vS s0)), (3, (vI s101)), (48, (vB j139))], []⟩ (by kernel_rfl) ?_ (fun τ hτ => ?_)
    ·replace h := hj139
     refine evs_run 3 (by kernel_rfl) ?_
     refine evs_split j134 (fun b0 => ⟨[(0, (vS s0)), (3, (vI s101)), (37, (vB (!b0)))], []⟩) (by kernel_rfl) (fun hb => ?_) (fun hb => ?_)
     ·replace h := iteT hb h
      refine z6 11 (by kernel_rfl) (fun τ hτ => ?_)
      obtain rfl := Option.some.inj h
      exact leafC hτ (here (by kernel_rfl))
     ·replace h := iteF hb h
      refine evs_run 2 (by kernel_rfl) ?_
      obtain ⟨x140, hx140, h⟩ := bindS h
      refine evs_at (at_sidx (s := s0) (i := s101) (kd := .i64) (by kernel_rfl) hx140) ?_
      refine evs_run 2 (by kernel_rfl) ?_
      refine evs_split (decide (x140 < 48)) (fun b0 => ⟨[(0, (vS s0)), (3, (vI s101)), (37, (vB true)), (42, (vB b0))], []⟩) (by kernel_rfl) (fun hb => ?_) (fun hb => ?_)
      ·replace h := iteT hb h
       refine z6 6 (by kernel_rfl) (fun τ hτ => ?_)
       obtain rfl := Option.some.inj h
       exact leafC hτ (here (by kernel_rfl))
      ·replace h := iteF hb h
       refine evs_run 2 (by kernel_rfl) ?_
       obtain ⟨x141, hx141, h⟩ := bindS h
       refine evs_at (at_sidx (s := s0) (i := s101) (kd := .i64) (by kernel_rfl) hx141) ?_
       refine z6 3 (by kernel_rfl) (fun τ hτ => ?_)
       obtain rfl := Option.some.inj h
       exact leafC hτ (here (by kernel_rfl))
    refine th_normalS hτ ⟨[(0, (vS s0)), (3, (vI s101)), (48, (vB j139))], []⟩ (here (by kernel_rfl)) ?_
    refine sem_cond j139 (by kernel_rfl) (by kernel_rfl) (fun hb => ?_) (fun hb => ?_)
    ·replace h := iteT hb h
     refine z8 1 ⟨[(2, (vB false))], []⟩ (by kernel_rfl) (fun τ hτ => ?_)
     refine bl_ret ?_
     refine th_ret ?_
     obtain rfl := Option.some.inj h
     exact lk_outS hτ rfl (here (by kernel_rfl))
    ·replace h := iteF hb h
     refine sem_skipS (by kernel_rfl) (fun τ hτ => ?_)
     refine bl_normal ?_
     refine th_normalS hτ ⟨[(0, (vS s0)), (3, (vI s101))], []⟩ (here (by kernel_rfl)) ?_
     refine sem_region (by kernel_rfl) ?_
     refine z6 3 (by kernel_rfl) (fun τ hτ => ?_)
     obtain rfl := Option.some.inj h
     exact lk_nextS hτ (here (by kernel_rfl))
   ·replace h := iteF hb h
    refine sem_exitS 0 (by kernel_rfl) rfl (fun τ hτ => ?_)
    refine th_exit ?_
    obtain rfl := Option.some.inj h
    exact lk_outS hτ rfl (here (by kernel_rfl))
  ·intro x
   rcases x with _ | _ <;> rfl
  ·intro τ hτ
   rcases x142 with j143 | j144
   ·refine bl_ret ?_
    refine th_ret ?_
    obtain rfl := Option.some.inj h
    exact rk_ret hτ [(2, (vB false))] (here (by kernel_rfl)) (by kernel_rfl)
   ·refine bl_hit (by kernel_rfl) ?_
    refine th_normalS hτ ⟨[(0, (vS s0))], []⟩ (here (by kernel_rfl)) ?_
    refine z7 (by kernel_rfl) ?_
    obtain ⟨r147, hr147, h⟩ := bindS h
    refine evs_callP [] (by kernel_rfl) (W.sheetmetalref02_reserved_ok hr147) (by kernel_rfl) (.inl rfl) (by kernel_rfl) ?_
    refine evs_run 1 (by kernel_rfl) ?_
    obtain ⟨r148, hr148, h⟩ := bindS h
    refine evs_callP [] (by kernel_rfl) (W.sheetmetalref02_isWord_ok hr148) (by kernel_rfl) (.inl rfl) (by kernel_rfl) ?_
    refine z1 2 ⟨[(2, (vB (!r148)))], []⟩ (by kernel_rfl) ?_
    refine sem_retS (by kernel_rfl) (fun τ hτ => ?_)
    obtain rfl := Option.some.inj h
    exact rk_ret hτ [(2, (vB (!r148)))] (here (by kernel_rfl)) (by kernel_rfl)
theorem W.sheetmetalref06_stuff_ok {name : ByteArray} {material : ByteArray} {gauge : Int} {grain : Int} {r : Int} (h : sheetmetalref06_stuff name material gauge grain = some r) : PC G.P 55 [(vS name), (vS material), (vI gauge), (vI grain)] [] (vI r) [] := by
 refine pc_of G (fn := Tryz.f55) Tryz.func55 (by kernel_rfl) (by kernel_rfl) (by kernel_rfl) (by kernel_rfl) (by kernel_rfl) ?_
 refine sem_set ⟨[(0, (vS name)), (1, (vS material)), (2, (vI gauge)), (3, (vI grain))], []⟩ (by kernel_rfl) ?_
 refine z3 1 ⟨[(0, (vS name)), (1, (vS material)), (2, (vI gauge)), (3, (vI grain))], []⟩ (by kernel_rfl) ?_
 refine sem_seq (by kernel_rfl) ?_
 refine sem_seq (by kernel_rfl) ?_
 obtain ⟨j8, hj8, h⟩ := bindS h
 refine sem_regionC ⟨[(2, (vI gauge)), (3, (vI grain)), (16, (vB j8))], []⟩ (by kernel_rfl) ?_ (fun τ hτ => ?_)
 ·replace h := hj8
  refine evs_run 1 (by kernel_rfl) ?_
  obtain ⟨r9, hr9, h⟩ := bindS h
  refine evs_callP [] (by kernel_rfl) (W.sheetmetalref02_ValidName_ok hr9) (by kernel_rfl) (.inl rfl) (by kernel_rfl) ?_
  refine evs_run 2 (by kernel_rfl) ?_
  refine evs_split r9 (fun b0 => ⟨[(1, (vS material)), (2, (vI gauge)), (3, (vI grain)), (12, (vB (!b0)))], []⟩) (by kernel_rfl) (fun hb => ?_) (fun hb => ?_)
  ·replace h := iteT hb h
   refine evs_run 1 (by kernel_rfl) ?_
   obtain ⟨r10, hr10, h⟩ := bindS h
   refine evs_callP [] (by kernel_rfl) (W.sheetmetalref02_ValidName_ok hr10) (by kernel_rfl) (.inl rfl) (by kernel_rfl) ?_
   refine z6 2 (by kernel_rfl) (fun τ hτ => ?_)
   obtain rfl := Option.some.inj h
   exact leafC hτ (here (by kernel_rfl))
  ·replace h := iteF hb h
   refine z6 4 (by kernel_rfl) (fun τ hτ => ?_)
   obtain rfl := Option.some.inj h
   exact leafC hτ (here (by kernel_rfl))
 refine th_normalS hτ ⟨[(2, (vI gauge)), (3, (vI grain)), (16, (vB j8))], []⟩ (here (by kernel_rfl)) ?_
 refine sem_cond j8 (by kernel_rfl) (by kernel_rfl) (fun hb => ?_) (fun hb => ?_)
 ·replace h := iteT hb h
  refine z8 1 ⟨[(8, (vI 2))], []⟩ (by kernel_rfl) (fun τ hτ => ?_)
  refine th_ret ?_
  obtain rfl := Option.some.inj h
  exact rk_ret hτ [(8, (vI 2))] (here (by kernel_rfl)) (by kernel_rfl)
 ·replace h := iteF hb h
  refine z4 ⟨[(2, (vI gauge)), (3, (vI grain))], []⟩ (by kernel_rfl) ?_
  refine sem_seq (by kernel_rfl) ?_
  refine sem_seq (by kernel_rfl) ?_
  obtain ⟨j12, hj12, h⟩ := bindS h
  refine sem_regionC ⟨[(30, (vB j12))], []⟩ (by kernel_rfl) ?_ (fun τ hτ => ?_)
  ·replace h := hj12
   refine evs_run 3 (by kernel_rfl) ?_
   refine evs_split (decide (gauge < 1)) (fun b0 => ⟨[(2, (vI gauge)), (3, (vI grain)), (19, (vB b0))], []⟩) (by kernel_rfl) (fun hb => ?_) (fun hb => ?_)
   ·replace h := iteT hb h
    refine z6 11 (by kernel_rfl) (fun τ hτ => ?_)
    obtain rfl := Option.some.inj h
    exact leafC hτ (here (by kernel_rfl))
   ·replace h := iteF hb h
    refine evs_run 4 (by kernel_rfl) ?_
    refine evs_split (decide (gauge > 60)) (fun b0 => ⟨[(3, (vI grain)), (23, (vB b0))], []⟩) (by kernel_rfl) (fun hb => ?_) (fun hb => ?_)
    ·replace h := iteT hb h
     refine z6 7 (by kernel_rfl) (fun τ hτ => ?_)
     obtain rfl := Option.some.inj h
     exact leafC hτ (here (by kernel_rfl))
    ·replace h := iteF hb h
     refine evs_run 4 (by kernel_rfl) ?_
     refine evs_split (decide (grain < 0)) (fun b0 => ⟨[(3, (vI grain)), (27, (vB b0))], []⟩) (by kernel_rfl) (fun hb => ?_) (fun hb => ?_)
     ·replace h := iteT hb h
      refine z6 3 (by kernel_rfl) (fun τ hτ => ?_)
      obtain rfl := Option.some.inj h
      exact leafC hτ (here (by kernel_rfl))
     ·replace h := iteF hb h
      refine z6 3 (by kernel_rfl) (fun τ hτ => ?_)
      obtain rfl := Option.some.inj h
      exact leafC hτ (here (by kernel_rfl))
  refine th_normalS hτ ⟨[(30, (vB j12))], []⟩ (here (by kernel_rfl)) ?_
  refine sem_cond j12 (by kernel_rfl) (by kernel_rfl) (fun hb => ?_) (fun hb => ?_)
  ·replace h := iteT hb h
   refine z8 1 ⟨[(8, (vI 1))], []⟩ (by kernel_rfl) (fun τ hτ => ?_)
   refine th_ret ?_
   obtain rfl := Option.some.inj h
   exact rk_ret hτ [(8, (vI 1))] (here (by kernel_rfl)) (by kernel_rfl)
  ·replace h := iteF hb h
   refine z4 ⟨[], []⟩ (by kernel_rfl) ?_
   refine z8 1 ⟨[(8, (vI 0))], []⟩ (by kernel_rfl) (fun τ hτ => ?_)
   obtain rfl := Option.some.inj h
   exact rk_ret hτ [(8, (vI 0))] (here (by kernel_rfl)) (by kernel_rfl)
theorem W.sheetmetalref06_Rights_ok {l : (List Rect)} {r : Bool} (h : sheetmetalref06_Rights l = some r) : PC G.P 56 [(.sl (List.map c_Rect l))] [] (vB r) [] := by
 refine pc_of G (fn := Tryz.f56) Tryz.func56 (by kernel_rfl) (by kernel_rfl) (by kernel_rfl) (by kernel_rfl) (by kernel_rfl) ?_
 refine sem_set ⟨[(0, (.sl (List.map c_Rect l)))], []⟩ (by kernel_rfl) ?_
 refine z3 1 ⟨[(0, (.sl (List.map c_Rect l)))], []⟩ (by kernel_rfl) ?_
 refine sem_seq (by kernel_rfl) ?_
 refine z3 1 ⟨[(0, (.sl (List.map c_Rect l))), (3, (vI 0))], []⟩ (by kernel_rfl) ?_
 refine sem_block (by kernel_rfl) ?_
 obtain ⟨x56, hx56, h⟩ := bindS h
 refine sem_loopS (fun (s39 : Int) => ⟨[(0, (.sl (List.map c_Rect l))), (3, (vI s39))], []⟩) (fun (x56 : Unit ⊕ Unit) => match x56 with | .inl j57 => (.ret, ⟨[(2, (vB false))], []⟩) | .inr j58 => (.exit 0, ⟨[], []⟩)) (sheetmetalref06_Rights_l1 l) 0 x56 (by kernel_rfl) (here (by kernel_rfl)) hx56 ?_ ?_ ?_
 ·intro s39 r h
  refine sem_seq (by kernel_rfl) ?_
  refine z7 (by kernel_rfl) ?_
  refine evs_run 2 (by kernel_rfl) ?_
  refine evs_op (st_len (c := c_Rect) (l := l) (x := (.sl (List.map c_Rect l))) (by kernel_rfl) (by kernel_rfl)) ?_
  refine z1 1 ⟨[(0, (.sl (List.map c_Rect l))), (3, (vI s39)), (7, (vB (decide (s39 < (l.length : Int)))))], []⟩ (by kernel_rfl) ?_
  refine sem_cond (decide (s39 < (l.length : Int))) (by kernel_rfl) (by kernel_rfl) (fun hb => ?_) (fun hb => ?_)
  ·replace h := iteT hb h
   refine z4 ⟨[(0, (.sl (List.map c_Rect l))), (3, (vI s39))], []⟩ (by kernel_rfl) ?_
   refine sem_seq (by kernel_rfl) ?_
   refine sem_block (by kernel_rfl) ?_
   refine z7 (by kernel_rfl) ?_
   refine evs_run 2 (by kernel_rfl) ?_
   obtain ⟨x54, hx54, h⟩ := bindS h
   refine evs_op (st_idx (c := c_Rect) (l := l) (i := s39) (kd := .i64) (sz := 4) (by kernel_rfl) hx54 rfl) ?_
   refine evs_run 1 (by kernel_rfl) ?_
   obtain ⟨r55, hr55, h⟩ := bindS h
   refine evs_callP [] (by kernel_rfl) (W.sheetmetalref06_Right_ok hr55) (by kernel_rfl) (.inl rfl) (by kernel_rfl) ?_
   refine z1 1 ⟨[(0, (.sl (List.map c_Rect l))), (3, (vI s39)), (15, (vB (!r55)))], []⟩ (by kernel_rfl) ?_
   refine sem_cond (!r55) (by kernel_rfl) (by kernel_rfl) (fun hb => ?_) (fun hb => ?_)
   ·replace h := iteT hb h
    refine z8 1 ⟨[(2, (vB false))], []⟩ (by kernel_rfl) (fun τ hτ => ?_)
    refine bl_ret ?_
    refine th_ret ?_
    obtain rfl := Option.some.inj h
    exact lk_outS hτ rfl (here (by kernel_rfl))
   ·replace h := iteF hb h
    refine sem_skipS (by kernel_rfl) (fun τ hτ => ?_)
    refine bl_normal ?_
    refine th_normalS hτ ⟨[(0, (.sl (List.map c_Rect l))), (3, (vI s39))], []⟩ (here (by kernel_rfl)) ?_
    refine sem_region (by kernel_rfl) ?_
    refine z6 3 (by kernel_rfl) (fun τ hτ => ?_)
    obtain rfl := Option.some.inj h
    exact lk_nextS hτ (here (by kernel_rfl))
  ·replace h := iteF hb h
   refine sem_exitS 0 (by kernel_rfl) rfl (fun τ hτ => ?_)
   refine th_exit ?_
   obtain rfl := Option.some.inj h
   exact lk_outS hτ rfl (here (by kernel_rfl))
 ·intro x
  rcases x with _ | _ <;> rfl
 ·intro τ hτ
  rcases x56 with j57 | j58
  ·refine bl_ret ?_
   refine th_ret ?_
   obtain rfl := Option.some.inj h
   exact rk_ret hτ [(2, (vB false))] (here (by kernel_rfl)) (by kernel_rfl)
  ·refine bl_hit (by kernel_rfl) ?_
   refine th_normalS hτ ⟨[], []⟩ (here (by kernel_rfl)) ?_
   refine z8 1 ⟨[(2, (vB true))], []⟩ (by kernel_rfl) (fun τ hτ => ?_)
   obtain rfl := Option.some.inj h
   exact rk_ret hτ [(2, (vB true))] (here (by kernel_rfl)) (by kernel_rfl)
theorem W.sheetmetalref06_Within_ok {a : Rect} {b : Rect} {r : Bool} (h : sheetmetalref06_Within a b = some r) : PC G.P 95 [(.agg (c_Rect a)), (.agg (c_Rect b))] [] (vB r) [] := by
 refine pc_of G (fn := Tryz.f95) Tryz.func95 (by kernel_rfl) (by kernel_rfl) (by kernel_rfl) (by kernel_rfl) (by kernel_rfl) ?_
 refine sem_set ⟨[(0, (.agg (c_Rect a))), (1, (.agg (c_Rect b)))], []⟩ (by kernel_rfl) ?_
 refine z3 3 ⟨[(2, (.ptr 2 0)), (3, (.ptr 3 0))], [(2, .box (c_Rect a)), (3, .box (c_Rect b))]⟩ (by kernel_rfl) ?_
 refine sem_seq (by kernel_rfl) ?_
 obtain ⟨j3, hj3, h⟩ := bindS h
 refine sem_regionC ⟨[(4, (vB j3))], []⟩ (by kernel_rfl) ?_ (fun τ hτ => ?_)
 ·replace h := hj3
  refine evs_run 1 (by kernel_rfl) ?_
  obtain ⟨r4, hr4, h⟩ := bindS h
  refine evs_callP [] (by kernel_rfl) (W.sheetmetalref06_Right_ok hr4) (by kernel_rfl) (.inl rfl) (by kernel_rfl) ?_
  refine evs_run 1 (by kernel_rfl) ?_
  refine evs_split r4 (fun b0 => ⟨[(2, (.ptr 2 0)), (3, (.ptr 3 0)), (7, (vB b0))], [(2, .box (c_Rect a)), (3, .box (c_Rect b))]⟩) (by kernel_rfl) (fun hb => ?_) (fun hb => ?_)
  ·replace h := iteT hb h
   refine evs_run 1 (by kernel_rfl) ?_
   obtain ⟨r5, hr5, h⟩ := bindS h
   refine evs_callP [] (by kernel_rfl) (W.sheetmetalref06_Right_ok hr5) (by kernel_rfl) (.inl rfl) (by kernel_rfl) ?_
   refine evs_run 2 (by kernel_rfl) ?_
   refine evs_split r5 (fun b0 => ⟨[(2, (.ptr 2 0)), (3, (.ptr 3 0)), (11, (vB b0))], [(2, .box (c_Rect a)), (3, .box (c_Rect b))]⟩) (by kernel_rfl) (fun hb => ?_) (fun hb => ?_)
   ·replace h := iteT hb h
    refine evs_run 7 (by kernel_rfl) ?_
    refine evs_split (decide (a.X ≥ b.X)) (fun b0 => ⟨[(2, (.ptr 2 0)), (3, (.ptr 3 0)), (18, (vB b0))], [(2, .box (c_Rect a)), (3, .box (c_Rect b))]⟩) (by kernel_rfl) (fun hb => ?_) (fun hb => ?_)
    ·replace h := iteT hb h
     refine evs_run 7 (by kernel_rfl) ?_
     refine evs_split (decide (a.Y ≥ b.Y)) (fun b0 => ⟨[(2, (.ptr 2 0)), (3, (.ptr 3 0)), (25, (vB b0))], [(2, .box (c_Rect a)), (3, .box (c_Rect b))]⟩) (by kernel_rfl) (fun hb => ?_) (fun hb => ?_)
     ·replace h := iteT hb h
      refine evs_run 13 (by kernel_rfl) ?_
      refine evs_split (decide ((iadd a.X a.W) ≤ (iadd b.X b.W))) (fun b0 => ⟨[(2, (.ptr 2 0)), (3, (.ptr 3 0)), (38, (vB b0))], [(2, .box (c_Rect a)), (3, .box (c_Rect b))]⟩) (by kernel_rfl) (fun hb => ?_) (fun hb => ?_)
      ·replace h := iteT hb h
       refine z6 13 (by kernel_rfl) (fun τ hτ => ?_)
       obtain rfl := Option.some.inj h
       exact leafC hτ (here (by kernel_rfl))
      ·replace h := iteF hb h
       refine z6 13 (by kernel_rfl) (fun τ hτ => ?_)
       obtain rfl := Option.some.inj h
       exact leafC hτ (here (by kernel_rfl))
     ·replace h := iteF hb h
      refine z6 26 (by kernel_rfl) (fun τ hτ => ?_)
      obtain rfl := Option.some.inj h
      exact leafC hτ (here (by kernel_rfl))
    ·replace h := iteF hb h
     refine z6 33 (by kernel_rfl) (fun τ hτ => ?_)
     obtain rfl := Option.some.inj h
     exact leafC hτ (here (by kernel_rfl))
   ·replace h := iteF hb h
    refine z6 40 (by kernel_rfl) (fun τ hτ => ?_)
    obtain rfl := Option.some.inj h
    exact leafC hτ (here (by kernel_rfl))
  ·replace h := iteF hb h
   refine z6 44 (by kernel_rfl) (fun τ hτ => ?_)
   obtain rfl := Option.some.inj h
   exact leafC hτ (here (by kernel_rfl))
 refine th_normalS hτ ⟨[(4, (vB j3))], []⟩ (here (by kernel_rfl)) ?_
 refine sem_retS (by kernel_rfl) (fun τ hτ => ?_)
 obtain rfl := Option.some.inj h
 exact rk_ret hτ [(4, (vB j3))] (here (by kernel_rfl)) (by kernel_rfl)
theorem W.sheetmetalref06_inside_ok {s0 : Sheet} {l : (List Rect)} {r : Bool} (h : sheetmetalref06_inside s0 l = some r) : PC G.P 57 [(.agg (c_Sheet s0)), (.sl (List.map c_Rect l))] [] (vB r) [] := by
 refine pc_of G (fn := Tryz.f57) Tryz.func57 (by kernel_rfl) (by kernel_rfl) (by kernel_rfl) (by kernel_rfl) (by kernel_rfl) ?_
 refine sem_set ⟨[(0, (.agg (c_Sheet s0))), (1, (.sl (List.map c_Rect l)))], []⟩ (by kernel_rfl) ?_
 refine z3 2 ⟨[(1, (.sl (List.map c_Rect l))), (2, (.ptr 2 0))], [(2, .box (c_Sheet s0))]⟩ (by kernel_rfl) ?_
 refine sem_seq (by kernel_rfl) ?_
 refine z3 1 ⟨[(1, (.sl (List.map c_Rect l))), (2, (.ptr 2 0)), (5, (vI 0))], [(2, .box (c_Sheet s0))]⟩ (by kernel_rfl) ?_
 refine sem_block (by kernel_rfl) ?_
 obtain ⟨x80, hx80, h⟩ := bindS h
 refine sem_loopS (fun (s55 : Int) => ⟨[(1, (.sl (List.map c_Rect l))), (2, (.ptr 500000 0)), (5, (vI s55))], [(500000, .box (c_Sheet s0))]⟩) (fun (x80 : Unit ⊕ Unit) => match x80 with | .inl j81 => (.ret, ⟨[(4, (vB false))], []⟩) | .inr j82 => (.exit 0, ⟨[], []⟩)) (sheetmetalref06_inside_l1 s0 l) 0 x80 (by kernel_rfl) (subR_prep [] [(2, 500000)] (by kernel_rfl) rfl rfl (by kernel_rfl)) hx80 ?_ ?_ ?_
 ·intro s55 r h
  refine sem_seq (by kernel_rfl) ?_
  refine z7 (by kernel_rfl) ?_
  refine evs_run 2 (by kernel_rfl) ?_
  refine evs_op (st_len (c := c_Rect) (l := l) (x := (.sl (List.map c_Rect l))) (by kernel_rfl) (by kernel_rfl)) ?_
  refine z1 1 ⟨[(1, (.sl (List.map c_Rect l))), (2, (.ptr 500000 0)), (5, (vI s55)), (9, (vB (decide (s55 < (l.length : Int)))))], [(500000, .box (c_Sheet s0))]⟩ (by kernel_rfl) ?_
  refine sem_cond (decide (s55 < (l.length : Int))) (by kernel_rfl) (by kernel_rfl) (fun hb => ?_) (fun hb => ?_)
  ·replace h := iteT hb h
   refine z4 ⟨[(1, (.sl (List.map c_Rect l))), (2, (.ptr 500000 0)), (5, (vI s55))], [(500000, .box (c_Sheet s0))]⟩ (by kernel_rfl) ?_
   refine sem_seq (by kernel_rfl) ?_
   refine sem_block (by kernel_rfl) ?_
   refine sem_seq (by kernel_rfl) ?_
   refine sem_drawN [] [] [] [] [] 9 (by kernel_rfl) (by kernel_rfl) (by kernel_rfl) ?_
   refine evd_run 2 (by kernel_rfl) ?_
   obtain ⟨x78, hx78, h⟩ := bindS h
   refine evd_val (by kernel_rfl) (st_idx (c := c_Rect) (l := l) (i := s55) (kd := .i64) (sz := 4) (by kernel_rfl) hx78 rfl) (by kernel_rfl) (by kernel_rfl) ?_
   refine evd_run 6 (by kernel_rfl) ?_
   refine evd_end (by kernel_rfl) ?_
   obtain ⟨r79, hr79, h⟩ := bindS h
   refine evo_callP [] (by kernel_rfl) (W.sheetmetalref06_Within_ok hr79) (by kernel_rfl) (.inl rfl) (by kernel_rfl) ?_
   refine evo_run 1 (by kernel_rfl) ?_
   refine evo_endS (by kernel_rfl) (fun τ hτ => ?_)
   refine th_normalS hτ ⟨[(1, (.sl (List.map c_Rect l))), (2, (.ptr 500000 0)), (5, (vI s55)), (22, (vB (!r79)))], [(500000, .box (c_Sheet s0))]⟩ (here (by kernel_rfl)) ?_
   refine sem_cond (!r79) (by kernel_rfl) (by kernel_rfl) (fun hb => ?_) (fun hb => ?_)
   ·replace h := iteT hb h
    refine z8 1 ⟨[(4, (vB false))], []⟩ (by kernel_rfl) (fun τ hτ => ?_)
    refine bl_ret ?_
    refine th_ret ?_
    obtain rfl := Option.some.inj h
    exact lk_outS hτ rfl (here (by kernel_rfl))
   ·replace h := iteF hb h
    refine sem_skipS (by kernel_rfl) (fun τ hτ => ?_)
    refine bl_normal ?_
    refine th_normalS hτ ⟨[(1, (.sl (List.map c_Rect l))), (2, (.ptr 500000 0)), (5, (vI s55))], [(500000, .box (c_Sheet s0))]⟩ (here (by kernel_rfl)) ?_
    refine sem_region (by kernel_rfl) ?_
    refine z6 3 (by kernel_rfl) (fun τ hτ => ?_)
    obtain rfl := Option.some.inj h
    exact lk_nextS hτ (here (by kernel_rfl))
  ·replace h := iteF hb h
   refine sem_exitS 0 (by kernel_rfl) rfl (fun τ hτ => ?_)
   refine th_exit ?_
   obtain rfl := Option.some.inj h
   exact lk_outS hτ rfl (here (by kernel_rfl))
 ·intro x
  rcases x with _ | _ <;> rfl
 ·intro τ hτ
  rcases x80 with j81 | j82
  ·refine bl_ret ?_
   refine th_ret ?_
   obtain rfl := Option.some.inj h
   exact rk_ret hτ [(4, (vB false))] (here (by kernel_rfl)) (by kernel_rfl)
  ·refine bl_hit (by kernel_rfl) ?_
   refine th_normalS hτ ⟨[], []⟩ (here (by kernel_rfl)) ?_
   refine z8 1 ⟨[(4, (vB true))], []⟩ (by kernel_rfl) (fun τ hτ => ?_)
   obtain rfl := Option.some.inj h
   exact rk_ret hτ [(4, (vB true))] (here (by kernel_rfl)) (by kernel_rfl)
theorem W.sheetmetalref06_ValidateSheet_ok {s0 : Sheet} {r : Int} (h : sheetmetalref06_ValidateSheet s0 = some r) : PC G.P 16 [(.agg (c_Sheet s0))] [] (vI r) [] := by
 refine pc_of G (fn := Tryz.f16) Tryz.func16 (by kernel_rfl) (by kernel_rfl) (by kernel_rfl) (by kernel_rfl) (by kernel_rfl) ?_
 refine sem_set ⟨[(0, (.agg (c_Sheet s0)))], []⟩ (by kernel_rfl) ?_
 refine z3 2 ⟨[(1, (.ptr 1 0))], [(1, .box (c_Sheet s0))]⟩ (by kernel_rfl) ?_
 refine z7 (by kernel_rfl) ?_
 refine evs_run 8 (by kernel_rfl) ?_
 obtain ⟨r2, hr2, h⟩ := bindS h
 refine evs_callP [] (by kernel_rfl) (W.sheetmetalref06_stuff_ok hr2) (by kernel_rfl) (.inl rfl) (by kernel_rfl) ?_
 refine z1 1 ⟨[(1, (.ptr 1 0)), (3, (vI r2))], [(1, .box (c_Sheet s0))]⟩ (by kernel_rfl) ?_
 refine sem_seq (by kernel_rfl) ?_
 refine z3 2 ⟨[(1, (.ptr 1 0)), (3, (vI r2)), (14, (vB (r2 != 0)))], [(1, .box (c_Sheet s0))]⟩ (by kernel_rfl) ?_
 refine sem_cond (r2 != 0) (by kernel_rfl) (by kernel_rfl) (fun hb => ?_) (fun hb => ?_)
 ·replace h := iteT hb h
  refine z8 2 ⟨[(2, (vI r2))], []⟩ (by kernel_rfl) (fun τ hτ => ?_)
  refine th_ret ?_
  obtain rfl := Option.some.inj h
  exact rk_ret hτ [(2, (vI r2))] (here (by kernel_rfl)) (by kernel_rfl)
 ·replace h := iteF hb h
  refine z4 ⟨[(1, (.ptr 1 0))], [(1, .box (c_Sheet s0))]⟩ (by kernel_rfl) ?_
  refine sem_seq (by kernel_rfl) ?_
  refine sem_seq (by kernel_rfl) ?_
  obtain ⟨j4, hj4, h⟩ := bindS h
  refine sem_regionC ⟨[(1, (.ptr 500000 0)), (33, (vB j4))], [(500000, .box (c_Sheet s0))]⟩ (by kernel_rfl) ?_ (fun τ hτ => ?_)
  ·replace h := hj4
   refine evs_run 4 (by kernel_rfl) ?_
   refine evs_split (decide (s0.Width < 1)) (fun b0 => ⟨[(1, (.ptr 1 0)), (19, (vB b0))], [(1, .box (c_Sheet s0))]⟩) (by kernel_rfl) (fun hb => ?_) (fun hb => ?_)
   ·replace h := iteT hb h
    refine z6 14 (by kernel_rfl) (fun τ hτ => ?_)
    obtain rfl := Option.some.inj h
    exact leafC hτ (subR_prep [] [(1, 500000)] (by kernel_rfl) rfl rfl (by kernel_rfl))
   ·replace h := iteF hb h
    refine evs_run 5 (by kernel_rfl) ?_
    refine evs_split (decide (s0.Width > 1048576)) (fun b0 => ⟨[(1, (.ptr 1 0)), (24, (vB b0))], [(1, .box (c_Sheet s0))]⟩) (by kernel_rfl) (fun hb => ?_) (fun hb => ?_)
    ·replace h := iteT hb h
     refine z6 9 (by kernel_rfl) (fun τ hτ => ?_)
     obtain rfl := Option.some.inj h
     exact leafC hτ (subR_prep [] [(1, 500000)] (by kernel_rfl) rfl rfl (by kernel_rfl))
    ·replace h := iteF hb h
     refine evs_run 5 (by kernel_rfl) ?_
     refine evs_split (decide (s0.Height < 1)) (fun b0 => ⟨[(1, (.ptr 1 0)), (29, (vB b0))], [(1, .box (c_Sheet s0))]⟩) (by kernel_rfl) (fun hb => ?_) (fun hb => ?_)
     ·replace h := iteT hb h
      refine z6 4 (by kernel_rfl) (fun τ hτ => ?_)
      obtain rfl := Option.some.inj h
      exact leafC hτ (subR_prep [] [(1, 500000)] (by kernel_rfl) rfl rfl (by kernel_rfl))
     ·replace h := iteF hb h
      refine z6 4 (by kernel_rfl) (fun τ hτ => ?_)
      obtain rfl := Option.some.inj h
      exact leafC hτ (subR_prep [] [(1, 500000)] (by kernel_rfl) rfl rfl (by kernel_rfl))
  refine th_normalS hτ ⟨[(1, (.ptr 500000 0)), (33, (vB j4))], [(500000, .box (c_Sheet s0))]⟩ (here (by kernel_rfl)) ?_
  refine sem_cond j4 (by kernel_rfl) (by kernel_rfl) (fun hb => ?_) (fun hb => ?_)
  ·replace h := iteT hb h
   refine z8 1 ⟨[(2, (vI 1))], []⟩ (by kernel_rfl) (fun τ hτ => ?_)
   refine th_ret ?_
   obtain rfl := Option.some.inj h
   exact rk_ret hτ [(2, (vI 1))] (here (by kernel_rfl)) (by kernel_rfl)
  ·replace h := iteF hb h
   refine z4 ⟨[(1, (.ptr 500000 0))], [(500000, .box (c_Sheet s0))]⟩ (by kernel_rfl) ?_
   refine sem_seq (by kernel_rfl) ?_
   refine sem_seq (by kernel_rfl) ?_
   obtain ⟨j6, hj6, h⟩ := bindS h
   refine sem_regionC ⟨[(1, (.ptr 500000 0)), (43, (vB j6))], [(500000, .box (c_Sheet s0))]⟩ (by kernel_rfl) ?_ (fun τ hτ => ?_)
   ·replace h := hj6
    refine evs_run 2 (by kernel_rfl) ?_
    refine evs_op (st_len (c := c_Rect) (l := s0.Clamps) (x := (.sl (List.map c_Rect s0.Clamps))) (by kernel_rfl) (by kernel_rfl)) ?_
    refine evs_run 2 (by kernel_rfl) ?_
    refine evs_split (decide ((s0.Clamps.length : Int) > 4)) (fun b0 => ⟨[(1, (.ptr 500000 0)), (38, (vB b0))], [(500000, .box (c_Sheet s0))]⟩) (by kernel_rfl) (fun hb => ?_) (fun hb => ?_)
    ·replace h := iteT hb h
     refine z6 5 (by kernel_rfl) (fun τ hτ => ?_)
     obtain rfl := Option.some.inj h
     exact leafC hτ (here (by kernel_rfl))
    ·replace h := iteF hb h
     refine evs_run 2 (by kernel_rfl) ?_
     refine evs_op (st_len (c := c_Rect) (l := s0.Used) (x := (.sl (List.map c_Rect s0.Used))) (by kernel_rfl) (by kernel_rfl)) ?_
     refine z6 2 (by kernel_rfl) (fun τ hτ => ?_)
     obtain rfl := Option.some.inj h
     exact leafC hτ (here (by kernel_rfl))
   refine th_normalS hτ ⟨[(1, (.ptr 500000 0)), (43, (vB j6))], [(500000, .box (c_Sheet s0))]⟩ (here (by kernel_rfl)) ?_
   refine sem_cond j6 (by kernel_rfl) (by kernel_rfl) (fun hb => ?_) (fun hb => ?_)
   ·replace h := iteT hb h
    refine z8 1 ⟨[(2, (vI 4))], []⟩ (by kernel_rfl) (fun τ hτ => ?_)
    refine th_ret ?_
    obtain rfl := Option.some.inj h
    exact rk_ret hτ [(2, (vI 4))] (here (by kernel_rfl)) (by kernel_rfl)
   ·replace h := iteF hb h
    refine z4 ⟨[(1, (.ptr 500000 0))], [(500000, .box (c_Sheet s0))]⟩ (by kernel_rfl) ?_
    refine sem_seq (by kernel_rfl) ?_
    refine sem_seq (by kernel_rfl) ?_
    obtain ⟨j14, hj14, h⟩ := bindS h
    refine sem_regionC ⟨[(1, (.ptr 500000 0)), (53, (vB j14))], [(500000, .box (c_Sheet s0))]⟩ (by kernel_rfl) ?_ (fun τ hτ => ?_)
    ·replace h := hj14
     refine evs_run 2 (by kernel_rfl) ?_
     obtain ⟨r15, hr15, h⟩ := bindS h
     refine evs_callP [] (by kernel_rfl) (W.sheetmetalref06_Rights_ok hr15) (by kernel_rfl) (.inl rfl) (by kernel_rfl) ?_
     refine evs_run 2 (by kernel_rfl) ?_
     refine evs_split r15 (fun b0 => ⟨[(1, (.ptr 500000 0)), (48, (vB (!b0)))], [(500000, .box (c_Sheet s0))]⟩) (by kernel_rfl) (fun hb => ?_) (fun hb => ?_)
     ·replace h := iteT hb h
      refine evs_run 2 (by kernel_rfl) ?_
      obtain ⟨r16, hr16, h⟩ := bindS h
      refine evs_callP [] (by kernel_rfl) (W.sheetmetalref06_Rights_ok hr16) (by kernel_rfl) (.inl rfl) (by kernel_rfl) ?_
      refine z6 2 (by kernel_rfl) (fun τ hτ => ?_)
      obtain rfl := Option.some.inj h
      exact leafC hτ (here (by kernel_rfl))
     ·replace h := iteF hb h
      refine z6 5 (by kernel_rfl) (fun τ hτ => ?_)
      obtain rfl := Option.some.inj h
      exact leafC hτ (here (by kernel_rfl))
    refine th_normalS hτ ⟨[(1, (.ptr 500000 0)), (53, (vB j14))], [(500000, .box (c_Sheet s0))]⟩ (here (by kernel_rfl)) ?_
    refine sem_cond j14 (by kernel_rfl) (by kernel_rfl) (fun hb => ?_) (fun hb => ?_)
    ·replace h := iteT hb h
     refine z8 1 ⟨[(2, (vI 1))], []⟩ (by kernel_rfl) (fun τ hτ => ?_)
     refine th_ret ?_
     obtain rfl := Option.some.inj h
     exact rk_ret hτ [(2, (vI 1))] (here (by kernel_rfl)) (by kernel_rfl)
    ·replace h := iteF hb h
     refine z4 ⟨[(1, (.ptr 500000 0))], [(500000, .box (c_Sheet s0))]⟩ (by kernel_rfl) ?_
     refine sem_seq (by kernel_rfl) ?_
     refine sem_seq (by kernel_rfl) ?_
     obtain ⟨j24, hj24, h⟩ := bindS h
     refine sem_regionC ⟨[(65, (vB j24))], []⟩ (by kernel_rfl) ?_ (fun τ hτ => ?_)
     ·replace h := hj24
      refine evs_run 3 (by kernel_rfl) ?_
      obtain ⟨r25, hr25, h⟩ := bindS h
      refine evs_callP [] (by kernel_rfl) (W.sheetmetalref06_inside_ok hr25) (by kernel_rfl) (.inl rfl) (by kernel_rfl) ?_
      refine evs_run 2 (by kernel_rfl) ?_
      refine evs_split r25 (fun b0 => ⟨[(1, (.ptr 500000 0)), (59, (vB (!b0)))], [(500000, .box (c_Sheet s0))]⟩) (by kernel_rfl) (fun hb => ?_) (fun hb => ?_)
      ·replace h := iteT hb h
       refine evs_run 3 (by kernel_rfl) ?_
       obtain ⟨r26, hr26, h⟩ := bindS h
       refine evs_callP [] (by kernel_rfl) (W.sheetmetalref06_inside_ok hr26) (by kernel_rfl) (.inl rfl) (by kernel_rfl) ?_
       refine z6 2 (by kernel_rfl) (fun τ hτ => ?_)
       obtain rfl := Option.some.inj h
       exact leafC hτ (here (by kernel_rfl))
      ·replace h := iteF hb h
       refine z6 6 (by kernel_rfl) (fun τ hτ => ?_)
       obtain rfl := Option.some.inj h
       exact leafC hτ (here (by kernel_rfl))
     refine th_normalS hτ ⟨[(65, (vB j24))], []⟩ (here (by kernel_rfl)) ?_
     refine sem_cond j24 (by kernel_rfl) (by kernel_rfl) (fun hb => ?_) (fun hb => ?_)
     ·replace h := iteT hb h
      refine z8 1 ⟨[(2, (vI 13))], []⟩ (by kernel_rfl) (fun τ hτ => ?_)
      refine th_ret ?_
      obtain rfl := Option.some.inj h
      exact rk_ret hτ [(2, (vI 13))] (here (by kernel_rfl)) (by kernel_rfl)
     ·replace h := iteF hb h
      refine z4 ⟨[], []⟩ (by kernel_rfl) ?_
      refine z8 1 ⟨[(2, (vI 0))], []⟩ (by kernel_rfl) (fun τ hτ => ?_)
      obtain rfl := Option.some.inj h
      exact rk_ret hτ [(2, (vI 0))] (here (by kernel_rfl)) (by kernel_rfl)
theorem W.nest_touch_ok {a : Rect} {b : Rect} {r : Bool} (h : nest_touch a b = some r) : PC G.P 96 [(.agg (c_Rect a)), (.agg (c_Rect b))] [] (vB r) [] := by
 refine pc_of G (fn := Tryz.f96) Tryz.func96 (by kernel_rfl) (by kernel_rfl) (by kernel_rfl) (by kernel_rfl) (by kernel_rfl) ?_
 refine sem_set ⟨[(0, (.agg (c_Rect a))), (1, (.agg (c_Rect b)))], []⟩ (by kernel_rfl) ?_
 refine z3 3 ⟨[(2, (.ptr 2 0)), (3, (.ptr 3 0))], [(2, .box (c_Rect a)), (3, .box (c_Rect b))]⟩ (by kernel_rfl) ?_
 refine z3 18 ⟨[(2, (.ptr 2 0)), (3, (.ptr 3 0)), (5, (vI (isub (imin (iadd a.X a.W) (iadd b.X b.W)) (imax a.X b.X))))], [(2, .box (c_Rect a)), (3, .box (c_Rect b))]⟩ (by kernel_rfl) ?_
 refine z3 18 ⟨[(5, (vI (isub (imin (iadd a.X a.W) (iadd b.X b.W)) (imax a.X b.X)))), (6, (vI (isub (imin (iadd a.Y a.H) (iadd b.Y b.H)) (imax a.Y b.Y))))], []⟩ (by kernel_rfl) ?_
 refine sem_seq (by kernel_rfl) ?_
 obtain ⟨j1, hj1, h⟩ := bindS h
 refine sem_regionC ⟨[(4, (vB j1))], []⟩ (by kernel_rfl) ?_ (fun τ hτ => ?_)
 ·replace h := hj1
  refine evs_run 3 (by kernel_rfl) ?_
  refine evs_split ((isub (imin (iadd a.X a.W) (iadd b.X b.W)) (imax a.X b.X)) == 0) (fun b0 => ⟨[(5, (vI (isub (imin (iadd a.X a.W) (iadd b.X b.W)) (imax a.X b.X)))), (6, (vI (isub (imin (iadd a.Y a.H) (iadd b.Y b.H)) (imax a.Y b.Y)))), (43, (vB b0))], []⟩) (by kernel_rfl) (fun hb => ?_) (fun hb => ?_)
  ·replace h := iteT hb h
   refine evs_run 4 (by kernel_rfl) ?_
   refine evs_split (decide ((isub (imin (iadd a.Y a.H) (iadd b.Y b.H)) (imax a.Y b.Y)) > 0)) (fun b0 => ⟨[(5, (vI (isub (imin (iadd a.X a.W) (iadd b.X b.W)) (imax a.X b.X)))), (6, (vI (isub (imin (iadd a.Y a.H) (iadd b.Y b.H)) (imax a.Y b.Y)))), (47, (vB b0))], []⟩) (by kernel_rfl) (fun hb => ?_) (fun hb => ?_)
   ·replace h := iteT hb h
    refine z6 8 (by kernel_rfl) (fun τ hτ => ?_)
    obtain rfl := Option.some.inj h
    exact leafC hτ (here (by kernel_rfl))
   ·replace h := iteF hb h
    refine evs_run 3 (by kernel_rfl) ?_
    refine evs_split ((isub (imin (iadd a.Y a.H) (iadd b.Y b.H)) (imax a.Y b.Y)) == 0) (fun b0 => ⟨[(5, (vI (isub (imin (iadd a.X a.W) (iadd b.X b.W)) (imax a.X b.X)))), (47, (vB false)), (50, (vB b0))], []⟩) (by kernel_rfl) (fun hb => ?_) (fun hb => ?_)
    ·replace h := iteT hb h
     refine z6 5 (by kernel_rfl) (fun τ hτ => ?_)
     obtain rfl := Option.some.inj h
     exact leafC hτ (here (by kernel_rfl))
    ·replace h := iteF hb h
     refine z6 5 (by kernel_rfl) (fun τ hτ => ?_)
     obtain rfl := Option.some.inj h
     exact leafC hτ (here (by kernel_rfl))
  ·replace h := iteF hb h
   refine evs_run 7 (by kernel_rfl) ?_
   refine evs_split ((isub (imin (iadd a.Y a.H) (iadd b.Y b.H)) (imax a.Y b.Y)) == 0) (fun b0 => ⟨[(5, (vI (isub (imin (iadd a.X a.W) (iadd b.X b.W)) (imax a.X b.X)))), (47, (vB false)), (50, (vB b0))], []⟩) (by kernel_rfl) (fun hb => ?_) (fun hb => ?_)
   ·replace h := iteT hb h
    refine z6 5 (by kernel_rfl) (fun τ hτ => ?_)
    obtain rfl := Option.some.inj h
    exact leafC hτ (here (by kernel_rfl))
   ·replace h := iteF hb h
    refine z6 5 (by kernel_rfl) (fun τ hτ => ?_)
    obtain rfl := Option.some.inj h
    exact leafC hτ (here (by kernel_rfl))
 refine th_normalS hτ ⟨[(4, (vB j1))], []⟩ (here (by kernel_rfl)) ?_
 refine sem_retS (by kernel_rfl) (fun τ hτ => ?_)
 obtain rfl := Option.some.inj h
 exact rk_ret hτ [(4, (vB j1))] (here (by kernel_rfl)) (by kernel_rfl)
theorem W.nest_connected_ok {l : (List Rect)} {r : Bool} (h : nest_connected l = some r) : PC G.P 59 [(.sl (List.map c_Rect l))] [] (vB r) [] := by
 refine pc_of G (fn := Tryz.f59) Tryz.func59 (by kernel_rfl) (by kernel_rfl) (by kernel_rfl) (by kernel_rfl) (by kernel_rfl) ?_
 refine sem_set ⟨[(0, (.sl (List.map c_Rect l)))], []⟩ (by kernel_rfl) ?_
 refine z3 1 ⟨[(0, (.sl (List.map c_Rect l)))], []⟩ (by kernel_rfl) ?_
 refine z7 (by kernel_rfl) ?_
 refine evs_run 1 (by kernel_rfl) ?_
 refine evs_op (st_len (c := c_Rect) (l := l) (x := (.sl (List.map c_Rect l))) (by kernel_rfl) (by kernel_rfl)) ?_
 obtain ⟨l2, hl2, h⟩ := bindS h
 refine evs_op (st_mk (c := cB) (z := false) (n := (l.length : Int)) (e := 4) (d := 11) (zs := [(vB false)]) (k1 := .i64) (k2 := .i64) (by kernel_rfl) rfl hl2) ?_
 refine z1 1 ⟨[(0, (.sl (List.map c_Rect l))), (3, (.row (.top 11) 4))], [(11, .row 4 [] (List.map cB l2))]⟩ (by kernel_rfl) ?_
 refine z7 (by kernel_rfl) ?_
 refine evs_run 1 (by kernel_rfl) ?_
 obtain ⟨x4, hx4, h⟩ := bindS h
 refine evs_op (st_idxO (c := cB) (l := l2) (i := 0) (kd := .i64) (kk := (.top 11)) (e := 4) (sz := 1) (by kernel_rfl) (by kernel_rfl) hx4 rfl) ?_
 refine evs_op (st_stO (c := cB) (l := l2) (i := (Int.toNat 0)) (x := x4) (x' := true) (v := (vB true)) (agg := false) (sz := 1) (kk := (.top 11)) (e := 4) (off := 0) (J := []) (o := .row 4 [] (List.map cB (List.set l2 (Int.toNat 0) true))) (by kernel_rfl) (by kernel_rfl) (by kernel_rfl) ((idxS hx4).2) (by kernel_rfl) (by kernel_rfl) (by kernel_rfl)) ?_
 refine evs_endS (by kernel_rfl) (fun τ hτ => ?_)
 refine th_normalS hτ ⟨[(0, (.sl (List.map c_Rect l))), (3, (.row (.top 11) 4))], [(11, .row 4 [] (List.map cB (List.set l2 (Int.toNat 0) true)))]⟩ (here (by kernel_rfl)) ?_
 refine z7 (by kernel_rfl) ?_
 refine evs_at (at_build (e := 3) (d := 14) (es := (List.map cI [0])) (by kernel_rfl)) ?_
 refine evs_toTl (g := 14) (e := 3) (l := [0]) (by kernel_rfl) (by kernel_rfl) (by kernel_rfl) ?_
 refine z1 1 ⟨[(0, (.sl (List.map c_Rect l))), (3, (.row (.top 11) 4)), (4, (.row (.top 14) 3))], [(11, .row 4 [] (List.map cB (List.set l2 (Int.toNat 0) true))), (14, .tl 3 [0])]⟩ (by kernel_rfl) ?_
 refine sem_seq (by kernel_rfl) ?_
 refine sem_block (by kernel_rfl) ?_
 obtain ⟨x670, hx670, h⟩ := bindS h
 refine sem_loopS (fun (s449 : (List Bool) × (List Int)) => ⟨[(0, (.sl (List.map c_Rect l))), (3, (.row (.top 500000) 4)), (4, (.row (.top 500001) 3))], [(500000, .row 4 [] (List.map cB s449.1)), (500001, .tl 3 s449.2)]⟩) (fun (x670 : (List Bool)) => (.exit 0, ⟨[(3, (.row (.top 500000) 4))], [(500000, .row 4 [] (List.map cB x670))]⟩)) (nest_connected_l3 l) ((List.set l2 (Int.toNat 0) true), [0]) x670 (by kernel_rfl) (subR_prep [] [(11, 500000), (14, 500001)] (by kernel_rfl) rfl rfl (by kernel_rfl)) hx670 ?_ ?_ ?_
 ·intro s449 r h
  refine sem_seq (by kernel_rfl) ?_
  refine z7 (by kernel_rfl) ?_
  refine evs_run 1 (by kernel_rfl) ?_
  refine evs_at (at_lenT (g := 500001) (e := 3) (l := s449.2) (by kernel_rfl) (by kernel_rfl)) ?_
  refine z1 1 ⟨[(0, (.sl (List.map c_Rect l))), (3, (.row (.top 500000) 4)), (4, (.row (.top 500001) 3)), (17, (vB (decide ((s449.2.length : Int) > 0))))], [(500000, .row 4 [] (List.map cB s449.1)), (500001, .tl 3 s449.2)]⟩ (by kernel_rfl) ?_
  refine sem_cond (decide ((s449.2.length : Int) > 0)) (by kernel_rfl) (by kernel_rfl) (fun hb => ?_) (fun hb => ?_)
  ·replace h := iteT hb h
   refine z4 ⟨[(0, (.sl (List.map c_Rect l))), (3, (.row (.top 500000) 4)), (4, (.row (.top 500001) 3))], [(500000, .row 4 [] (List.map cB s449.1)), (500001, .tl 3 s449.2)]⟩ (by kernel_rfl) ?_
   refine sem_block (by kernel_rfl) ?_
   refine z7 (by kernel_rfl) ?_
   refine evs_run 1 (by kernel_rfl) ?_
   obtain ⟨x561, hx561, h⟩ := bindS h
   refine evs_getT (g := 500001) (e := 3) (d1 := 19) (d2 := 20) (l := s449.2) (i := 0) (kd := .i64) (by kernel_rfl) (by kernel_rfl) (by kernel_rfl) hx561 ?_
   refine z1 1 ⟨[(0, (.sl (List.map c_Rect l))), (3, (.row (.top 500000) 4)), (4, (.row (.top 500001) 3)), (5, (vI x561))], [(500000, .row 4 [] (List.map cB s449.1)), (500001, .tl 3 s449.2)]⟩ (by kernel_rfl) ?_
   refine z7 (by kernel_rfl) ?_
   refine evs_run 1 (by kernel_rfl) ?_
   obtain ⟨hb1, h⟩ := iteN h
   refine evs_at (at_dropT (g := 500001) (e := 3) (n := 1) (kd := .i64) (l := s449.2) (by kernel_rfl) (by kernel_rfl) (by kernel_rfl) hb1) ?_
   refine z1 1 ⟨[(0, (.sl (List.map c_Rect l))), (3, (.row (.top 500000) 4)), (4, (.row (.top 500001) 3)), (5, (vI x561))], [(500000, .row 4 [] (List.map cB s449.1)), (500001, .tl 3 (List.drop 1 s449.2))]⟩ (by kernel_rfl) ?_
   refine z7 (by kernel_rfl) ?_
   refine evs_run 1 (by kernel_rfl) ?_
   refine evs_op (st_len (c := c_Rect) (l := l) (x := (.sl (List.map c_Rect l))) (by kernel_rfl) (by kernel_rfl)) ?_
   refine z1 1 ⟨[(0, (.sl (List.map c_Rect l))), (3, (.row (.top 500000) 4)), (4, (.row (.top 500001) 3)), (5, (vI x561)), (24, (vI (l.length : Int))), (25, (vI 0))], [(500000, .row 4 [] (List.map cB s449.1)), (500001, .tl 3 (List.drop 1 s449.2))]⟩ (by kernel_rfl) ?_
   refine sem_block (by kernel_rfl) ?_
   obtain ⟨x669, hx669, h⟩ := bindS h
   refine sem_loopS (fun (s598 : Int × (List Bool) × (List Int)) => ⟨[(0, (.sl (List.map c_Rect l))), (3, (.row (.top 500000) 4)), (4, (.row (.top 500001) 3)), (5, (vI x561)), (24, (vI (l.length : Int))), (25, (vI s598.1))], [(500000, .row 4 [] (List.map cB s598.2.1)), (500001, .tl 3 s598.2.2)]⟩) (fun (x669 : (List Bool) × (List Int)) => (.exit 2, ⟨[(0, (.sl (List.map c_Rect l))), (3, (.row (.top 500000) 4)), (4, (.row (.top 500001) 3))], [(500000, .row 4 [] (List.map cB x669.1)), (500001, .tl 3 x669.2)]⟩)) (nest_connected_l2 l x561) (0, s449.1, (List.drop 1 s449.2)) x669 (by kernel_rfl) (here (by kernel_rfl)) hx669 ?_ ?_ ?_
   ·intro s598 r h
    refine z3 1 ⟨[(0, (.sl (List.map c_Rect l))), (3, (.row (.top 500000) 4)), (4, (.row (.top 500001) 3)), (5, (vI x561)), (24, (vI (l.length : Int))), (25, (vI s598.1)), (26, (vB (decide (s598.1 < (l.length : Int)))))], [(500000, .row 4 [] (List.map cB s598.2.1)), (500001, .tl 3 s598.2.2)]⟩ (by kernel_rfl) ?_
    refine sem_seq (by kernel_rfl) ?_
    refine sem_cond (decide (s598.1 < (l.length : Int))) (by kernel_rfl) (by kernel_rfl) (fun hb => ?_) (fun hb => ?_)
    ·replace h := iteT hb h
     refine z4 ⟨[(0, (.sl (List.map c_Rect l))), (3, (.row (.top 500000) 4)), (4, (.row (.top 500001) 3)), (5, (vI x561)), (24, (vI (l.length : Int))), (25, (vI s598.1))], [(500000, .row 4 [] (List.map cB s598.2.1)), (500001, .tl 3 s598.2.2)]⟩ (by kernel_rfl) ?_
     refine sem_seqJ (fun (j651 : (List Bool) × (List Int)) => ⟨[(0, (.sl (List.map c_Rect l))), (3, (.row (.top 500000) 4)), (4, (.row (.top 500001) 3)), (5, (vI x561)), (24, (vI (l.length : Int))), (25, (vI s598.1))], [(500000, .row 4 [] (List.map cB j651.1)), (500001, .tl 3 j651.2)]⟩) (nest_connected_k1 s598) r (by kernel_rfl) (fun j651 h => ?_) ?_
     ·refine sem_region (by kernel_rfl) ?_
      refine z6 2 (by kernel_rfl) (fun τ hτ => ?_)
      obtain rfl := Option.some.inj h
      exact lk_nextS hτ (here (by kernel_rfl))
     refine sem_block (by kernel_rfl) ?_
     refine z3 2 ⟨[(0, (.sl (List.map c_Rect l))), (3, (.row (.top 500000) 4)), (4, (.row (.top 500001) 3)), (5, (vI x561)), (6, (vI s598.1)), (24, (vI (l.length : Int))), (25, (vI s598.1))], [(500000, .row 4 [] (List.map cB s598.2.1)), (500001, .tl 3 s598.2.2)]⟩ (by kernel_rfl) ?_
     refine sem_seq (by kernel_rfl) ?_
     obtain ⟨j660, hj660, h⟩ := bindS h
     refine sem_drawP ⟨[(0, (.sl (List.map c_Rect l))), (3, (.row (.top 500000) 4)), (4, (.row (.top 500001) 3)), (5, (vI x561)), (6, (vI s598.1)), (24, (vI (l.length : Int))), (25, (vI s598.1)), (43, (vB j660))], [(500000, .row 4 [] (List.map cB s598.2.1)), (500001, .tl 3 s598.2.2)]⟩ [] [] [] [] [] 14 (by kernel_rfl) (by kernel_rfl) (by kernel_rfl) ?_ (fun τ hτ => ?_)
     ·replace h := hj660
      refine evd_run 2 (by kernel_rfl) ?_
      obtain ⟨x661, hx661, h⟩ := bindS h
      refine evd_val (by kernel_rfl) (st_idxO (c := cB) (l := s598.2.1) (i := s598.1) (kd := .i64) (kk := (.top 500000)) (e := 4) (sz := 1) (by kernel_rfl) (by kernel_rfl) hx661 rfl) (by kernel_rfl) (by kernel_rfl) ?_
      refine evd_val (by kernel_rfl) (st_ldO (c := cB) (l := s598.2.1) (i := (Int.toNat s598.1)) (v := (vB x661)) (agg := false) (sz := 1) (kk := (.top 500000)) (e := 4) (off := 0) (J := []) (by kernel_rfl) (by kernel_rfl) (by kernel_rfl) ((idxS hx661).2) (by kernel_rfl)) (by kernel_rfl) (by kernel_rfl) ?_
      refine evd_run 2 (by kernel_rfl) ?_
      refine evd_split x661 (fun b0 => ⟨[(33, (vB (!b0))), (32, (vB (!b0))), (31, (vB b0)), (30, (.rptr (.top 500000) 4 (Int.toNat s598.1) 0)), (29, (vI s598.1)), (28, (.row (.top 500000) 4)), (0, (.sl (List.map c_Rect l))), (3, (.row (.top 500000) 4)), (4, (.row (.top 500001) 3)), (5, (vI x561)), (6, (vI s598.1)), (24, (vI (l.length : Int))), (25, (vI s598.1))], [(500000, .row 4 [] (List.map cB s598.2.1)), (500001, .tl 3 s598.2.2)]⟩) (by kernel_rfl) (fun hb => ?_) (fun hb => ?_)
      ·replace h := iteT hb h
       refine evd_run 8 (by kernel_rfl) ?_
       refine evd_end (by kernel_rfl) ?_
       refine evo_run 2 (by kernel_rfl) ?_
       refine evo_endS (by kernel_rfl) (fun τ hτ => ?_)
       obtain rfl := Option.some.inj h
       exact leafC hτ (here (by kernel_rfl))
      ·replace h := iteF hb h
       refine evd_run 2 (by kernel_rfl) ?_
       obtain ⟨x662, hx662, h⟩ := bindS h
       refine evd_val (by kernel_rfl) (st_idx (c := c_Rect) (l := l) (i := x561) (kd := .i64) (sz := 4) (by kernel_rfl) hx662 rfl) (by kernel_rfl) (by kernel_rfl) ?_
       refine evd_run 3 (by kernel_rfl) ?_
       obtain ⟨x663, hx663, h⟩ := bindS h
       refine evd_val (by kernel_rfl) (st_idx (c := c_Rect) (l := l) (i := s598.1) (kd := .i64) (sz := 4) (by kernel_rfl) hx663 rfl) (by kernel_rfl) (by kernel_rfl) ?_
       refine evd_run 1 (by kernel_rfl) ?_
       refine evd_end (by kernel_rfl) ?_
       obtain ⟨r664, hr664, h⟩ := bindS h
       refine evo_callP [] (by kernel_rfl) (W.nest_touch_ok hr664) (by kernel_rfl) (.inl rfl) (by kernel_rfl) ?_
       refine evo_run 1 (by kernel_rfl) ?_
       refine evo_endS (by kernel_rfl) (fun τ hτ => ?_)
       obtain rfl := Option.some.inj h
       exact leafC hτ (here (by kernel_rfl))
     refine th_normalS hτ ⟨[(0, (.sl (List.map c_Rect l))), (3, (.row (.top 500000) 4)), (4, (.row (.top 500001) 3)), (5, (vI x561)), (6, (vI s598.1)), (24, (vI (l.length : Int))), (25, (vI s598.1)), (43, (vB j660))], [(500000, .row 4 [] (List.map cB s598.2.1)), (500001, .tl 3 s598.2.2)]⟩ (here (by kernel_rfl)) ?_
     refine sem_cond j660 (by kernel_rfl) (by kernel_rfl) (fun hb => ?_) (fun hb => ?_)
     ·replace h := iteT hb h
      refine z7 (by kernel_rfl) ?_
      refine evs_run 2 (by kernel_rfl) ?_
      obtain ⟨x666, hx666, h⟩ := bindS h
      refine evs_op (st_idxO (c := cB) (l := s598.2.1) (i := s598.1) (kd := .i64) (kk := (.top 500000)) (e := 4) (sz := 1) (by kernel_rfl) (by kernel_rfl) hx666 rfl) ?_
      refine evs_op (st_stO (c := cB) (l := s598.2.1) (i := (Int.toNat s598.1)) (x := x666) (x' := true) (v := (vB true)) (agg := false) (sz := 1) (kk := (.top 500000)) (e := 4) (off := 0) (J := []) (o := .row 4 [] (List.map cB (List.set s598.2.1 (Int.toNat s598.1) true))) (by kernel_rfl) (by kernel_rfl) (by kernel_rfl) ((idxS hx666).2) (by kernel_rfl) (by kernel_rfl) (by kernel_rfl)) ?_
      refine evs_endS (by kernel_rfl) (fun τ hτ => ?_)
      refine th_normalS hτ ⟨[(0, (.sl (List.map c_Rect l))), (3, (.row (.top 500000) 4)), (4, (.row (.top 500001) 3)), (5, (vI x561)), (6, (vI s598.1)), (24, (vI (l.length : Int))), (25, (vI s598.1))], [(500000, .row 4 [] (List.map cB (List.set s598.2.1 (Int.toNat s598.1) true))), (500001, .tl 3 s598.2.2)]⟩ (here (by kernel_rfl)) ?_
      refine sem_region (by kernel_rfl) ?_
      refine evs_run 3 (by kernel_rfl) ?_
      obtain ⟨l668, hl668, h⟩ := bindS h
      refine evs_at (at_appT (g := 500001) (e := 3) (l := s598.2.2) (y := s598.1) (x := (.sl (List.map cI [s598.1]))) (by kernel_rfl) (by kernel_rfl) (by kernel_rfl) (by kernel_rfl) (by kernel_rfl) hl668) ?_
      refine z6 1 (by kernel_rfl) (fun τ hτ => ?_)
      refine bl_normal ?_
      exact jk_normal ((List.set s598.2.1 (Int.toNat s598.1) true), l668) h hτ (here (by kernel_rfl))
     ·replace h := iteF hb h
      refine sem_skipS (by kernel_rfl) (fun τ hτ => ?_)
      refine bl_normal ?_
      exact jk_normal (s598.2.1, s598.2.2) h hτ (here (by kernel_rfl))
    ·replace h := iteF hb h
     refine sem_exitS 2 (by kernel_rfl) rfl (fun τ hτ => ?_)
     refine th_exit ?_
     obtain rfl := Option.some.inj h
     exact lk_outS hτ rfl (here (by kernel_rfl))
   ·intro x
    rfl
   ·intro τ hτ
    refine bl_hit (by kernel_rfl) ?_
    refine bl_normal ?_
    obtain rfl := Option.some.inj h
    exact lk_nextS hτ (here (by kernel_rfl))
  ·replace h := iteF hb h
   refine sem_exitS 0 (by kernel_rfl) rfl (fun τ hτ => ?_)
   refine th_exit ?_
   obtain rfl := Option.some.inj h
   exact lk_outS hτ rfl (here (by kernel_rfl))
 ·intro x
  rfl
 ·intro τ hτ
  refine bl_hit (by kernel_rfl) ?_
  refine th_normalS hτ ⟨[(3, (.row (.top 500000) 4))], [(500000, .row 4 [] (List.map cB x670))]⟩ (here (by kernel_rfl)) ?_
  refine sem_seq (by kernel_rfl) ?_
  refine z7 (by kernel_rfl) ?_
  refine evs_run 1 (by kernel_rfl) ?_
  refine evs_op (st_len (c := cB) (l := x670) (x := (.row (.top 500000) 4)) (by kernel_rfl) (by kernel_rfl)) ?_
  refine z1 1 ⟨[(52, (.row (.top 500000) 4)), (53, (vI (x670.length : Int))), (54, (vI 0))], [(500000, .row 4 [] (List.map cB x670))]⟩ (by kernel_rfl) ?_
  refine sem_block (by kernel_rfl) ?_
  obtain ⟨x702, hx702, h⟩ := bindS h
  refine sem_loopS (fun (s693 : Int) => ⟨[(52, (.row (.top 500000) 4)), (53, (vI (x670.length : Int))), (54, (vI s693))], [(500000, .row 4 [] (List.map cB x670))]⟩) (fun (x702 : Unit ⊕ Unit) => match x702 with | .inl j703 => (.ret, ⟨[(2, (vB false))], []⟩) | .inr j704 => (.exit 4, ⟨[], []⟩)) (nest_connected_l4 x670) 0 x702 (by kernel_rfl) (here (by kernel_rfl)) hx702 ?_ ?_ ?_
  ·intro s693 r h
   refine z3 1 ⟨[(52, (.row (.top 500000) 4)), (53, (vI (x670.length : Int))), (54, (vI s693)), (55, (vB (decide (s693 < (x670.length : Int)))))], [(500000, .row 4 [] (List.map cB x670))]⟩ (by kernel_rfl) ?_
   refine sem_seq (by kernel_rfl) ?_
   refine sem_cond (decide (s693 < (x670.length : Int))) (by kernel_rfl) (by kernel_rfl) (fun hb => ?_) (fun hb => ?_)
   ·replace h := iteT hb h
    refine z4 ⟨[(52, (.row (.top 500000) 4)), (53, (vI (x670.length : Int))), (54, (vI s693))], [(500000, .row 4 [] (List.map cB x670))]⟩ (by kernel_rfl) ?_
    refine sem_seq (by kernel_rfl) ?_
    refine sem_block (by kernel_rfl) ?_
    refine z7 (by kernel_rfl) ?_
    obtain ⟨x701, hx701, h⟩ := bindS h
    refine evs_op (st_idxO (c := cB) (l := x670) (i := s693) (kd := .i64) (kk := (.top 500000)) (e := 4) (sz := 1) (by kernel_rfl) (by kernel_rfl) hx701 rfl) ?_
    refine evs_op (st_ldO (c := cB) (l := x670) (i := (Int.toNat s693)) (v := (vB x701)) (agg := false) (sz := 1) (kk := (.top 500000)) (e := 4) (off := 0) (J := []) (by kernel_rfl) (by kernel_rfl) (by kernel_rfl) ((idxS hx701).2) (by kernel_rfl)) ?_
    refine z1 1 ⟨[(8, (vB x701)), (52, (.row (.top 500000) 4)), (53, (vI (x670.length : Int))), (54, (vI s693))], [(500000, .row 4 [] (List.map cB x670))]⟩ (by kernel_rfl) ?_
    refine z3 2 ⟨[(52, (.row (.top 500000) 4)), (53, (vI (x670.length : Int))), (54, (vI s693)), (59, (vB (!x701)))], [(500000, .row 4 [] (List.map cB x670))]⟩ (by kernel_rfl) ?_
    refine sem_cond (!x701) (by kernel_rfl) (by kernel_rfl) (fun hb => ?_) (fun hb => ?_)
    ·replace h := iteT hb h
     refine z8 1 ⟨[(2, (vB false))], []⟩ (by kernel_rfl) (fun τ hτ => ?_)
     refine bl_ret ?_
     refine th_ret ?_
     obtain rfl := Option.some.inj h
     exact lk_outS hτ rfl (here (by kernel_rfl))
    ·replace h := iteF hb h
     refine sem_skipS (by kernel_rfl) (fun τ hτ => ?_)
     refine bl_normal ?_
     refine th_normalS hτ ⟨[(52, (.row (.top 500000) 4)), (53, (vI (x670.length : Int))), (54, (vI s693))], [(500000, .row 4 [] (List.map cB x670))]⟩ (here (by kernel_rfl)) ?_
     refine sem_region (by kernel_rfl) ?_
     refine z6 2 (by kernel_rfl) (fun τ hτ => ?_)
     obtain rfl := Option.some.inj h
     exact lk_nextS hτ (here (by kernel_rfl))
   ·replace h := iteF hb h
    refine sem_exitS 4 (by kernel_rfl) rfl (fun τ hτ => ?_)
    refine th_exit ?_
    obtain rfl := Option.some.inj h
    exact lk_outS hτ rfl (here (by kernel_rfl))
  ·intro x
   rcases x with _ | _ <;> rfl
  ·intro τ hτ
   rcases x702 with j703 | j704
   ·refine bl_ret ?_
    refine th_ret ?_
    obtain rfl := Option.some.inj h
    exact rk_ret hτ [(2, (vB false))] (here (by kernel_rfl)) (by kernel_rfl)
   ·refine bl_hit (by kernel_rfl) ?_
    refine th_normalS hτ ⟨[], []⟩ (here (by kernel_rfl)) ?_
    refine z8 1 ⟨[(2, (vB true))], []⟩ (by kernel_rfl) (fun τ hτ => ?_)
    obtain rfl := Option.some.inj h
    exact rk_ret hτ [(2, (vB true))] (here (by kernel_rfl)) (by kernel_rfl)
theorem W.nest_strictly_ok {h0 : Rect} {l : (List Rect)} {r : Bool} (h : nest_strictly h0 l = some r) : PC G.P 97 [(.agg (c_Rect h0)), (.sl (List.map c_Rect l))] [] (vB r) [] := by
 refine pc_of G (fn := Tryz.f97) Tryz.func97 (by kernel_rfl) (by kernel_rfl) (by kernel_rfl) (by kernel_rfl) (by kernel_rfl) ?_
 refine sem_set ⟨[(0, (.agg (c_Rect h0))), (1, (.sl (List.map c_Rect l)))], []⟩ (by kernel_rfl) ?_
 refine z3 2 ⟨[(1, (.sl (List.map c_Rect l))), (2, (.ptr 2 0))], [(2, .box (c_Rect h0))]⟩ (by kernel_rfl) ?_
 refine sem_seq (by kernel_rfl) ?_
 refine z7 (by kernel_rfl) ?_
 refine evs_run 1 (by kernel_rfl) ?_
 refine evs_op (st_len (c := c_Rect) (l := l) (x := (.sl (List.map c_Rect l))) (by kernel_rfl) (by kernel_rfl)) ?_
 refine z1 1 ⟨[(2, (.ptr 2 0)), (7, (.sl (List.map c_Rect l))), (8, (vI (l.length : Int))), (9, (vI 0))], [(2, .box (c_Rect h0))]⟩ (by kernel_rfl) ?_
 refine sem_block (by kernel_rfl) ?_
 obtain ⟨x44, hx44, h⟩ := bindS h
 refine sem_loopS (fun (s31 : Int) => ⟨[(2, (.ptr 500000 0)), (7, (.sl (List.map c_Rect l))), (8, (vI (l.length : Int))), (9, (vI s31))], [(500000, .box (c_Rect h0))]⟩) (fun (x44 : Unit ⊕ Unit) => match x44 with | .inl j45 => (.ret, ⟨[(4, (vB true))], []⟩) | .inr j46 => (.exit 0, ⟨[], []⟩)) (nest_strictly_l1 h0 l) 0 x44 (by kernel_rfl) (subR_prep [] [(2, 500000)] (by kernel_rfl) rfl rfl (by kernel_rfl)) hx44 ?_ ?_ ?_
 ·intro s31 r h
  refine z3 1 ⟨[(2, (.ptr 500000 0)), (7, (.sl (List.map c_Rect l))), (8, (vI (l.length : Int))), (9, (vI s31)), (10, (vB (decide (s31 < (l.length : Int)))))], [(500000, .box (c_Rect h0))]⟩ (by kernel_rfl) ?_
  refine sem_seq (by kernel_rfl) ?_
  refine sem_cond (decide (s31 < (l.length : Int))) (by kernel_rfl) (by kernel_rfl) (fun hb => ?_) (fun hb => ?_)
  ·replace h := iteT hb h
   refine z4 ⟨[(2, (.ptr 500000 0)), (7, (.sl (List.map c_Rect l))), (8, (vI (l.length : Int))), (9, (vI s31))], [(500000, .box (c_Rect h0))]⟩ (by kernel_rfl) ?_
   refine sem_seq (by kernel_rfl) ?_
   refine sem_block (by kernel_rfl) ?_
   refine z7 (by kernel_rfl) ?_
   obtain ⟨x42, hx42, h⟩ := bindS h
   refine evs_op (st_idx (c := c_Rect) (l := l) (i := s31) (kd := .i64) (sz := 4) (by kernel_rfl) hx42 rfl) ?_
   refine z1 3 ⟨[(2, (.ptr 500000 0)), (6, (.ptr 6 0)), (7, (.sl (List.map c_Rect l))), (8, (vI (l.length : Int))), (9, (vI s31))], [(6, .box (c_Rect x42)), (500000, .box (c_Rect h0))]⟩ (by kernel_rfl) ?_
   refine sem_seq (by kernel_rfl) ?_
   obtain ⟨j43, hj43, h⟩ := bindS h
   refine sem_regionC ⟨[(2, (.ptr 500000 0)), (7, (.sl (List.map c_Rect l))), (8, (vI (l.length : Int))), (9, (vI s31)), (50, (vB j43))], [(500000, .box (c_Rect h0))]⟩ (by kernel_rfl) ?_ (fun τ hτ => ?_)
   ·replace h := hj43
    refine evs_run 6 (by kernel_rfl) ?_
    refine evs_split (decide (h0.X > x42.X)) (fun b0 => ⟨[(2, (.ptr 500000 0)), (6, (.ptr 6 0)), (7, (.sl (List.map c_Rect l))), (8, (vI (l.length : Int))), (9, (vI s31)), (18, (vB b0))], [(6, .box (c_Rect x42)), (500000, .box (c_Rect h0))]⟩) (by kernel_rfl) (fun hb => ?_) (fun hb => ?_)
    ·replace h := iteT hb h
     refine evs_run 7 (by kernel_rfl) ?_
     refine evs_split (decide (h0.Y > x42.Y)) (fun b0 => ⟨[(2, (.ptr 500000 0)), (6, (.ptr 6 0)), (7, (.sl (List.map c_Rect l))), (8, (vI (l.length : Int))), (9, (vI s31)), (25, (vB b0))], [(6, .box (c_Rect x42)), (500000, .box (c_Rect h0))]⟩) (by kernel_rfl) (fun hb => ?_) (fun hb => ?_)
     ·replace h := iteT hb h
      refine evs_run 13 (by kernel_rfl) ?_
      refine evs_split (decide ((iadd h0.X h0.W) < (iadd x42.X x42.W))) (fun b0 => ⟨[(2, (.ptr 500000 0)), (6, (.ptr 6 0)), (7, (.sl (List.map c_Rect l))), (8, (vI (l.length : Int))), (9, (vI s31)), (38, (vB b0))], [(6, .box (c_Rect x42)), (500000, .box (c_Rect h0))]⟩) (by kernel_rfl) (fun hb => ?_) (fun hb => ?_)
      ·replace h := iteT hb h
       refine z6 12 (by kernel_rfl) (fun τ hτ => ?_)
       obtain rfl := Option.some.inj h
       exact leafC hτ (here (by kernel_rfl))
      ·replace h := iteF hb h
       refine z6 12 (by kernel_rfl) (fun τ hτ => ?_)
       obtain rfl := Option.some.inj h
       exact leafC hτ (here (by kernel_rfl))
     ·replace h := iteF hb h
      refine z6 25 (by kernel_rfl) (fun τ hτ => ?_)
      obtain rfl := Option.some.inj h
      exact leafC hτ (here (by kernel_rfl))
    ·replace h := iteF hb h
     refine z6 32 (by kernel_rfl) (fun τ hτ => ?_)
     obtain rfl := Option.some.inj h
     exact leafC hτ (here (by kernel_rfl))
   refine th_normalS hτ ⟨[(2, (.ptr 500000 0)), (7, (.sl (List.map c_Rect l))), (8, (vI (l.length : Int))), (9, (vI s31)), (50, (vB j43))], [(500000, .box (c_Rect h0))]⟩ (here (by kernel_rfl)) ?_
   refine sem_cond j43 (by kernel_rfl) (by kernel_rfl) (fun hb => ?_) (fun hb => ?_)
   ·replace h := iteT hb h
    refine z8 1 ⟨[(4, (vB true))], []⟩ (by kernel_rfl) (fun τ hτ => ?_)
    refine bl_ret ?_
    refine th_ret ?_
    obtain rfl := Option.some.inj h
    exact lk_outS hτ rfl (here (by kernel_rfl))
   ·replace h := iteF hb h
    refine sem_skipS (by kernel_rfl) (fun τ hτ => ?_)
    refine bl_normal ?_
    refine th_normalS hτ ⟨[(2, (.ptr 500000 0)), (7, (.sl (List.map c_Rect l))), (8, (vI (l.length : Int))), (9, (vI s31))], [(500000, .box (c_Rect h0))]⟩ (here (by kernel_rfl)) ?_
    refine sem_region (by kernel_rfl) ?_
    refine z6 2 (by kernel_rfl) (fun τ hτ => ?_)
    obtain rfl := Option.some.inj h
    exact lk_nextS hτ (here (by kernel_rfl))
  ·replace h := iteF hb h
   refine sem_exitS 0 (by kernel_rfl) rfl (fun τ hτ => ?_)
   refine th_exit ?_
   obtain rfl := Option.some.inj h
   exact lk_outS hτ rfl (here (by kernel_rfl))
 ·intro x
  rcases x with _ | _ <;> rfl
 ·intro τ hτ
  rcases x44 with j45 | j46
  ·refine bl_ret ?_
   refine th_ret ?_
   obtain rfl := Option.some.inj h
   exact rk_ret hτ [(4, (vB true))] (here (by kernel_rfl)) (by kernel_rfl)
  ·refine bl_hit (by kernel_rfl) ?_
   refine th_normalS hτ ⟨[], []⟩ (here (by kernel_rfl)) ?_
   refine z8 1 ⟨[(4, (vB false))], []⟩ (by kernel_rfl) (fun τ hτ => ?_)
   obtain rfl := Option.some.inj h
   exact rk_ret hτ [(4, (vB false))] (here (by kernel_rfl)) (by kernel_rfl)
theorem W.nest_inside_ok {x0 : Piece} {r : Int} (h : nest_inside x0 = some r) : PC G.P 60 [(.agg (c_Piece x0))] [] (vI r) [] := by
 refine pc_of G (fn := Tryz.f60) Tryz.func60 (by kernel_rfl) (by kernel_rfl) (by kernel_rfl) (by kernel_rfl) (by kernel_rfl) ?_
 refine sem_set ⟨[(0, (.agg (c_Piece x0)))], []⟩ (by kernel_rfl) ?_
 refine z3 2 ⟨[(1, (.ptr 1 0))], [(1, .box (c_Piece x0))]⟩ (by kernel_rfl) ?_
 refine sem_seq (by kernel_rfl) ?_
 refine sem_draw [(2, [12])] [(2, [12])] [] [(3, [12]), (4, [12])] [(0, [12]), (1, [12]), (3, [12]), (4, [12])] 5 (by kernel_rfl) (by kernel_rfl) [12] (by kernel_rfl) (by kernel_rfl) ?_
 refine evd_run 2 (by kernel_rfl) ?_
 obtain ⟨l5, hl5, h⟩ := bindS h
 refine evd_new (by kernel_rfl) (st_appN (c := c_Rect) (l2 := x0.Cuts) (x := (.sl (List.map c_Rect x0.Cuts))) (e := 86) (sz := 4) (d := 12) (by kernel_rfl) (by kernel_rfl) (by kernel_rfl) (fun _ => rfl) hl5) (by kernel_rfl) (by kernel_rfl) (by kernel_rfl) (by kernel_rfl) ?_
 refine evd_run 2 (by kernel_rfl) ?_
 refine evd_end (by kernel_rfl) ?_
 obtain ⟨l6, hl6, h⟩ := bindS h
 refine evo_op (st_app (c := c_Rect) (l := l5) (l2 := x0.Forms) (x := (.sl (List.map c_Rect x0.Forms))) (g := 12) (e := 86) (sz := 4) (d := 15) (by kernel_rfl) (by kernel_rfl) (by kernel_rfl) (by kernel_rfl) (fun _ => rfl) rfl hl6) ?_
 refine evo_run 1 (by kernel_rfl) ?_
 refine evo_endS (by kernel_rfl) (fun τ hτ => ?_)
 refine th_normalS hτ ⟨[(1, (.ptr 1 0)), (3, (.row (.top 12) 86))], [(1, .box (c_Piece x0)), (12, .row 86 [] (List.map c_Rect l6))]⟩ (here (by kernel_rfl)) ?_
 refine sem_seq (by kernel_rfl) ?_
 refine z7 (by kernel_rfl) ?_
 refine evs_run 1 (by kernel_rfl) ?_
 refine evs_op (st_len (c := c_Rect) (l := l6) (x := (.row (.top 12) 86)) (by kernel_rfl) (by kernel_rfl)) ?_
 refine z1 1 ⟨[(1, (.ptr 1 0)), (3, (.row (.top 12) 86)), (16, (.row (.top 12) 86)), (17, (vI (l6.length : Int))), (18, (vI 0))], [(1, .box (c_Piece x0)), (12, .row 86 [] (List.map c_Rect l6))]⟩ (by kernel_rfl) ?_
 refine sem_block (by kernel_rfl) ?_
 obtain ⟨x98, hx98, h⟩ := bindS h
 refine sem_loopS (fun (s69 : Int) => ⟨[(1, (.ptr 500000 0)), (3, (.row (.top 500001) 86)), (16, (.row (.top 500001) 86)), (17, (vI (l6.length : Int))), (18, (vI s69))], [(500000, .box (c_Piece x0)), (500001, .row 86 [] (List.map c_Rect l6))]⟩) (fun (x98 : Unit ⊕ Unit) => match x98 with | .inl j99 => (.ret, ⟨[(2, (vI 13))], []⟩) | .inr j100 => (.exit 0, ⟨[(3, (.row (.top 500000) 86))], [(500000, .row 86 [] (List.map c_Rect l6))]⟩)) (nest_inside_l1 x0 l6) 0 x98 (by kernel_rfl) (subR_prep [] [(1, 500000), (12, 500001)] (by kernel_rfl) rfl rfl (by kernel_rfl)) hx98 ?_ ?_ ?_
 ·intro s69 r h
  refine z3 1 ⟨[(1, (.ptr 500000 0)), (3, (.row (.top 500001) 86)), (16, (.row (.top 500001) 86)), (17, (vI (l6.length : Int))), (18, (vI s69)), (19, (vB (decide (s69 < (l6.length : Int)))))], [(500000, .box (c_Piece x0)), (500001, .row 86 [] (List.map c_Rect l6))]⟩ (by kernel_rfl) ?_
  refine sem_seq (by kernel_rfl) ?_
  refine sem_cond (decide (s69 < (l6.length : Int))) (by kernel_rfl) (by kernel_rfl) (fun hb => ?_) (fun hb => ?_)
  ·replace h := iteT hb h
   refine z4 ⟨[(1, (.ptr 500000 0)), (3, (.row (.top 500001) 86)), (16, (.row (.top 500001) 86)), (17, (vI (l6.length : Int))), (18, (vI s69))], [(500000, .box (c_Piece x0)), (500001, .row 86 [] (List.map c_Rect l6))]⟩ (by kernel_rfl) ?_
   refine sem_seq (by kernel_rfl) ?_
   refine sem_block (by kernel_rfl) ?_
   refine z7 (by kernel_rfl) ?_
   refine evs_run 1 (by kernel_rfl) ?_
   obtain ⟨x92, hx92, h⟩ := bindS h
   refine evs_op (st_idxO (c := c_Rect) (l := l6) (i := s69) (kd := .i64) (kk := (.top 500001)) (e := 86) (sz := 4) (by kernel_rfl) (by kernel_rfl) hx92 rfl) ?_
   refine evs_op (st_ldO (c := c_Rect) (l := l6) (i := (Int.toNat s69)) (v := (.agg (c_Rect x92))) (agg := true) (sz := 4) (kk := (.top 500001)) (e := 86) (off := 0) (J := []) (by kernel_rfl) (by kernel_rfl) (by kernel_rfl) ((idxS hx92).2) (by kernel_rfl)) ?_
   refine z1 3 ⟨[(1, (.ptr 500000 0)), (3, (.row (.top 500001) 86)), (4, (vI s69)), (5, (.ptr 5 0)), (16, (.row (.top 500001) 86)), (17, (vI (l6.length : Int))), (18, (vI s69))], [(5, .box (c_Rect x92)), (500000, .box (c_Piece x0)), (500001, .row 86 [] (List.map c_Rect l6))]⟩ (by kernel_rfl) ?_
   refine sem_seq (by kernel_rfl) ?_
   obtain ⟨j95, hj95, h⟩ := bindS h
   refine sem_regionC ⟨[(1, (.ptr 500000 0)), (3, (.row (.top 500001) 86)), (16, (.row (.top 500001) 86)), (17, (vI (l6.length : Int))), (18, (vI s69)), (44, (vB j95))], [(500000, .box (c_Piece x0)), (500001, .row 86 [] (List.map c_Rect l6))]⟩ (by kernel_rfl) ?_ (fun τ hτ => ?_)
   ·replace h := hj95
    refine evs_run 3 (by kernel_rfl) ?_
    refine evs_op (st_len (c := c_Rect) (l := x0.Cuts) (x := (.sl (List.map c_Rect x0.Cuts))) (by kernel_rfl) (by kernel_rfl)) ?_
    refine evs_run 2 (by kernel_rfl) ?_
    refine evs_split (decide (s69 < (x0.Cuts.length : Int))) (fun b0 => ⟨[(1, (.ptr 500000 0)), (3, (.row (.top 500001) 86)), (5, (.ptr 5 0)), (16, (.row (.top 500001) 86)), (17, (vI (l6.length : Int))), (18, (vI s69)), (28, (vB b0))], [(5, .box (c_Rect x92)), (500000, .box (c_Piece x0)), (500001, .row 86 [] (List.map c_Rect l6))]⟩) (by kernel_rfl) (fun hb => ?_) (fun hb => ?_)
    ·replace h := iteT hb h
     refine evs_run 4 (by kernel_rfl) ?_
     refine evs_split (x92.W == 1) (fun b0 => ⟨[(1, (.ptr 500000 0)), (3, (.row (.top 500001) 86)), (5, (.ptr 5 0)), (16, (.row (.top 500001) 86)), (17, (vI (l6.length : Int))), (18, (vI s69)), (28, (vB true)), (32, (vB b0))], [(5, .box (c_Rect x92)), (500000, .box (c_Piece x0)), (500001, .row 86 [] (List.map c_Rect l6))]⟩) (by kernel_rfl) (fun hb => ?_) (fun hb => ?_)
     ·replace h := iteT hb h
      refine z6 12 (by kernel_rfl) (fun τ hτ => ?_)
      obtain rfl := Option.some.inj h
      exact leafC hτ (here (by kernel_rfl))
     ·replace h := iteF hb h
      refine evs_run 6 (by kernel_rfl) ?_
      refine evs_split (x92.H == 1) (fun b0 => ⟨[(1, (.ptr 500000 0)), (3, (.row (.top 500001) 86)), (5, (.ptr 5 0)), (16, (.row (.top 500001) 86)), (17, (vI (l6.length : Int))), (18, (vI s69)), (38, (vB b0))], [(5, .box (c_Rect x92)), (500000, .box (c_Piece x0)), (500001, .row 86 [] (List.map c_Rect l6))]⟩) (by kernel_rfl) (fun hb => ?_) (fun hb => ?_)
      ·replace h := iteT hb h
       refine z6 6 (by kernel_rfl) (fun τ hτ => ?_)
       obtain rfl := Option.some.inj h
       exact leafC hτ (here (by kernel_rfl))
      ·replace h := iteF hb h
       refine evs_run 3 (by kernel_rfl) ?_
       obtain ⟨r96, hr96, h⟩ := bindS h
       refine evs_callP [] (by kernel_rfl) (W.nest_strictly_ok hr96) (by kernel_rfl) (.inl rfl) (by kernel_rfl) ?_
       refine z6 2 (by kernel_rfl) (fun τ hτ => ?_)
       obtain rfl := Option.some.inj h
       exact leafC hτ (here (by kernel_rfl))
    ·replace h := iteF hb h
     refine evs_run 13 (by kernel_rfl) ?_
     obtain ⟨r97, hr97, h⟩ := bindS h
     refine evs_callP [] (by kernel_rfl) (W.nest_strictly_ok hr97) (by kernel_rfl) (.inl rfl) (by kernel_rfl) ?_
     refine z6 2 (by kernel_rfl) (fun τ hτ => ?_)
     obtain rfl := Option.some.inj h
     exact leafC hτ (here (by kernel_rfl))
   refine th_normalS hτ ⟨[(1, (.ptr 500000 0)), (3, (.row (.top 500001) 86)), (16, (.row (.top 500001) 86)), (17, (vI (l6.length : Int))), (18, (vI s69)), (44, (vB j95))], [(500000, .box (c_Piece x0)), (500001, .row 86 [] (List.map c_Rect l6))]⟩ (here (by kernel_rfl)) ?_
   refine sem_cond j95 (by kernel_rfl) (by kernel_rfl) (fun hb => ?_) (fun hb => ?_)
   ·replace h := iteT hb h
    refine z8 1 ⟨[(2, (vI 13))], []⟩ (by kernel_rfl) (fun τ hτ => ?_)
    refine bl_ret ?_
    refine th_ret ?_
    obtain rfl := Option.some.inj h
    exact lk_outS hτ rfl (here (by kernel_rfl))
   ·replace h := iteF hb h
    refine sem_skipS (by kernel_rfl) (fun τ hτ => ?_)
    refine bl_normal ?_
    refine th_normalS hτ ⟨[(1, (.ptr 500000 0)), (3, (.row (.top 500001) 86)), (16, (.row (.top 500001) 86)), (17, (vI (l6.length : Int))), (18, (vI s69))], [(500000, .box (c_Piece x0)), (500001, .row 86 [] (List.map c_Rect l6))]⟩ (here (by kernel_rfl)) ?_
    refine sem_region (by kernel_rfl) ?_
    refine z6 2 (by kernel_rfl) (fun τ hτ => ?_)
    obtain rfl := Option.some.inj h
    exact lk_nextS hτ (here (by kernel_rfl))
  ·replace h := iteF hb h
   refine sem_exitS 0 (by kernel_rfl) rfl (fun τ hτ => ?_)
   refine th_exit ?_
   obtain rfl := Option.some.inj h
   exact lk_outS hτ rfl (subR_prep [] [(500001, 500000)] (by kernel_rfl) rfl rfl (by kernel_rfl))
 ·intro x
  rcases x with _ | _ <;> rfl
 ·intro τ hτ
  rcases x98 with j99 | j100
  ·refine bl_ret ?_
   refine th_ret ?_
   obtain rfl := Option.some.inj h
   exact rk_ret hτ [(2, (vI 13))] (here (by kernel_rfl)) (by kernel_rfl)
  ·refine bl_hit (by kernel_rfl) ?_
   refine th_normalS hτ ⟨[(3, (.row (.top 500000) 86))], [(500000, .row 86 [] (List.map c_Rect l6))]⟩ (here (by kernel_rfl)) ?_
   refine sem_seq (by kernel_rfl) ?_
   refine z7 (by kernel_rfl) ?_
   refine evs_run 1 (by kernel_rfl) ?_
   refine evs_op (st_len (c := c_Rect) (l := l6) (x := (.row (.top 500000) 86)) (by kernel_rfl) (by kernel_rfl)) ?_
   refine z1 1 ⟨[(3, (.row (.top 500000) 86)), (46, (.row (.top 500000) 86)), (47, (vI (l6.length : Int))), (48, (vI 0))], [(500000, .row 86 [] (List.map c_Rect l6))]⟩ (by kernel_rfl) ?_
   refine sem_block (by kernel_rfl) ?_
   obtain ⟨x504, hx504, h⟩ := bindS h
   refine sem_loopS (fun (s371 : Int) => ⟨[(3, (.sl (List.map c_Rect l6))), (46, (.sl (List.map c_Rect l6))), (47, (vI (l6.length : Int))), (48, (vI s371))], []⟩) (fun (x504 : Unit ⊕ Unit) => match x504 with | .inl j505 => (.ret, ⟨[(2, (vI 7))], []⟩) | .inr j506 => (.exit 2, ⟨[], []⟩)) (nest_inside_l3 l6) 0 x504 (by kernel_rfl) (subR_prep [.frz 500000] [] (by kernel_rfl) rfl rfl (by kernel_rfl)) hx504 ?_ ?_ ?_
   ·intro s371 r h
    refine z3 1 ⟨[(3, (.sl (List.map c_Rect l6))), (46, (.sl (List.map c_Rect l6))), (47, (vI (l6.length : Int))), (48, (vI s371)), (49, (vB (decide (s371 < (l6.length : Int)))))], []⟩ (by kernel_rfl) ?_
    refine sem_seq (by kernel_rfl) ?_
    refine sem_cond (decide (s371 < (l6.length : Int))) (by kernel_rfl) (by kernel_rfl) (fun hb => ?_) (fun hb => ?_)
    ·replace h := iteT hb h
     refine z4 ⟨[(3, (.sl (List.map c_Rect l6))), (46, (.sl (List.map c_Rect l6))), (47, (vI (l6.length : Int))), (48, (vI s371))], []⟩ (by kernel_rfl) ?_
     refine sem_seq (by kernel_rfl) ?_
     refine sem_block (by kernel_rfl) ?_
     refine z7 (by kernel_rfl) ?_
     refine evs_run 1 (by kernel_rfl) ?_
     obtain ⟨x472, hx472, h⟩ := bindS h
     refine evs_op (st_idx (c := c_Rect) (l := l6) (i := s371) (kd := .i64) (sz := 4) (by kernel_rfl) hx472 rfl) ?_
     refine z1 4 ⟨[(3, (.sl (List.map c_Rect l6))), (6, (vI s371)), (7, (.ptr 7 0)), (46, (.sl (List.map c_Rect l6))), (47, (vI (l6.length : Int))), (48, (vI s371))], [(7, .box (c_Rect x472))]⟩ (by kernel_rfl) ?_
     refine z7 (by kernel_rfl) ?_
     refine evs_run 2 (by kernel_rfl) ?_
     obtain ⟨l474, hl474, h⟩ := bindS h
     refine evs_op (st_slH (c := c_Rect) (l := l6) (sz := 4) (hi := s371) (k2 := .i64) (by kernel_rfl) hl474) ?_
     refine evs_op (st_len (c := c_Rect) (l := l474) (x := (.sl (List.map c_Rect l474))) (by kernel_rfl) (by kernel_rfl)) ?_
     refine z1 1 ⟨[(3, (.sl (List.map c_Rect l6))), (7, (.ptr 7 0)), (46, (.sl (List.map c_Rect l6))), (47, (vI (l6.length : Int))), (48, (vI s371)), (55, (.sl (List.map c_Rect l474))), (56, (vI (l474.length : Int))), (57, (vI 0))], [(7, .box (c_Rect x472))]⟩ (by kernel_rfl) ?_
     refine sem_block (by kernel_rfl) ?_
     obtain ⟨x501, hx501, h⟩ := bindS h
     refine sem_loopS (fun (s484 : Int) => ⟨[(3, (.sl (List.map c_Rect l6))), (7, (.ptr 500000 0)), (46, (.sl (List.map c_Rect l6))), (47, (vI (l6.length : Int))), (48, (vI s371)), (55, (.sl (List.map c_Rect l474))), (56, (vI (l474.length : Int))), (57, (vI s484))], [(500000, .box (c_Rect x472))]⟩) (fun (x501 : Unit ⊕ Unit) => match x501 with | .inl j502 => (.ret, ⟨[(2, (vI 7))], []⟩) | .inr j503 => (.exit 4, ⟨[(3, (.sl (List.map c_Rect l6))), (46, (.sl (List.map c_Rect l6))), (47, (vI (l6.length : Int))), (48, (vI s371))], []⟩)) (nest_inside_l2 x472 l474) 0 x501 (by kernel_rfl) (subR_prep [] [(7, 500000)] (by kernel_rfl) rfl rfl (by kernel_rfl)) hx501 ?_ ?_ ?_
     ·intro s484 r h
      refine z3 1 ⟨[(3, (.sl (List.map c_Rect l6))), (7, (.ptr 500000 0)), (46, (.sl (List.map c_Rect l6))), (47, (vI (l6.length : Int))), (48, (vI s371)), (55, (.sl (List.map c_Rect l474))), (56, (vI (l474.length : Int))), (57, (vI s484)), (58, (vB (decide (s484 < (l474.length : Int)))))], [(500000, .box (c_Rect x472))]⟩ (by kernel_rfl) ?_
      refine sem_seq (by kernel_rfl) ?_
      refine sem_cond (decide (s484 < (l474.length : Int))) (by kernel_rfl) (by kernel_rfl) (fun hb => ?_) (fun hb => ?_)
      ·replace h := iteT hb h
       refine z4 ⟨[(3, (.sl (List.map c_Rect l6))), (7, (.ptr 500000 0)), (46, (.sl (List.map c_Rect l6))), (47, (vI (l6.length : Int))), (48, (vI s371)), (55, (.sl (List.map c_Rect l474))), (56, (vI (l474.length : Int))), (57, (vI s484))], [(500000, .box (c_Rect x472))]⟩ (by kernel_rfl) ?_
       refine sem_seq (by kernel_rfl) ?_
       refine sem_block (by kernel_rfl) ?_
       refine z7 (by kernel_rfl) ?_
       obtain ⟨x498, hx498, h⟩ := bindS h
       refine evs_op (st_idx (c := c_Rect) (l := l474) (i := s484) (kd := .i64) (sz := 4) (by kernel_rfl) hx498 rfl) ?_
       refine z1 3 ⟨[(3, (.sl (List.map c_Rect l6))), (7, (.ptr 500000 0)), (9, (.ptr 9 0)), (46, (.sl (List.map c_Rect l6))), (47, (vI (l6.length : Int))), (48, (vI s371)), (55, (.sl (List.map c_Rect l474))), (56, (vI (l474.length : Int))), (57, (vI s484))], [(9, .box (c_Rect x498)), (500000, .box (c_Rect x472))]⟩ (by kernel_rfl) ?_
       refine z7 (by kernel_rfl) ?_
       refine evs_run 2 (by kernel_rfl) ?_
       obtain ⟨r500, hr500, h⟩ := bindS h
       refine evs_callP [] (by kernel_rfl) (W.geom_Distance_ok hr500) (by kernel_rfl) (.inl rfl) (by kernel_rfl) ?_
       refine z1 1 ⟨[(3, (.sl (List.map c_Rect l6))), (7, (.ptr 500000 0)), (46, (.sl (List.map c_Rect l6))), (47, (vI (l6.length : Int))), (48, (vI s371)), (55, (.sl (List.map c_Rect l474))), (56, (vI (l474.length : Int))), (57, (vI s484)), (64, (vB (r500 == 0)))], [(500000, .box (c_Rect x472))]⟩ (by kernel_rfl) ?_
       refine sem_cond (r500 == 0) (by kernel_rfl) (by kernel_rfl) (fun hb => ?_) (fun hb => ?_)
       ·replace h := iteT hb h
        refine z8 1 ⟨[(2, (vI 7))], []⟩ (by kernel_rfl) (fun τ hτ => ?_)
        refine bl_ret ?_
        refine th_ret ?_
        obtain rfl := Option.some.inj h
        exact lk_outS hτ rfl (here (by kernel_rfl))
       ·replace h := iteF hb h
        refine sem_skipS (by kernel_rfl) (fun τ hτ => ?_)
        refine bl_normal ?_
        refine th_normalS hτ ⟨[(3, (.sl (List.map c_Rect l6))), (7, (.ptr 500000 0)), (46, (.sl (List.map c_Rect l6))), (47, (vI (l6.length : Int))), (48, (vI s371)), (55, (.sl (List.map c_Rect l474))), (56, (vI (l474.length : Int))), (57, (vI s484))], [(500000, .box (c_Rect x472))]⟩ (here (by kernel_rfl)) ?_
        refine sem_region (by kernel_rfl) ?_
        refine z6 2 (by kernel_rfl) (fun τ hτ => ?_)
        obtain rfl := Option.some.inj h
        exact lk_nextS hτ (here (by kernel_rfl))
      ·replace h := iteF hb h
       refine sem_exitS 4 (by kernel_rfl) rfl (fun τ hτ => ?_)
       refine th_exit ?_
       obtain rfl := Option.some.inj h
       exact lk_outS hτ rfl (here (by kernel_rfl))
     ·intro x
      rcases x with _ | _ <;> rfl
     ·intro τ hτ
      rcases x501 with j502 | j503
      ·refine bl_ret ?_
       refine bl_ret ?_
       refine th_ret ?_
       obtain rfl := Option.some.inj h
       exact lk_outS hτ rfl (here (by kernel_rfl))
      ·refine bl_hit (by kernel_rfl) ?_
       refine bl_normal ?_
       refine th_normalS hτ ⟨[(3, (.sl (List.map c_Rect l6))), (46, (.sl (List.map c_Rect l6))), (47, (vI (l6.length : Int))), (48, (vI s371))], []⟩ (here (by kernel_rfl)) ?_
       refine sem_region (by kernel_rfl) ?_
       refine z6 2 (by kernel_rfl) (fun τ hτ => ?_)
       obtain rfl := Option.some.inj h
       exact lk_nextS hτ (here (by kernel_rfl))
    ·replace h := iteF hb h
     refine sem_exitS 2 (by kernel_rfl) rfl (fun τ hτ => ?_)
     refine th_exit ?_
     obtain rfl := Option.some.inj h
     exact lk_outS hτ rfl (here (by kernel_rfl))
   ·intro x
    rcases x with _ | _ <;> rfl
   ·intro τ hτ
    rcases x504 with j505 | j506
    ·refine bl_ret ?_
     refine th_ret ?_
     obtain rfl := Option.some.inj h
     exact rk_ret hτ [(2, (vI 7))] (here (by kernel_rfl)) (by kernel_rfl)
    ·refine bl_hit (by kernel_rfl) ?_
     refine th_normalS hτ ⟨[], []⟩ (here (by kernel_rfl)) ?_
     refine z8 1 ⟨[(2, (vI 0))], []⟩ (by kernel_rfl) (fun τ hτ => ?_)
     obtain rfl := Option.some.inj h
     exact rk_ret hτ [(2, (vI 0))] (here (by kernel_rfl)) (by kernel_rfl)
theorem W.nest_ValidatePiece_ok {x0 : Piece} {r : Int} (h : nest_ValidatePiece x0 = some r) : PC G.P 17 [(.agg (c_Piece x0))] [] (vI r) [] := by
 refine pc_of G (fn := Tryz.f17) Tryz.func17 (by kernel_rfl) (by kernel_rfl) (by kernel_rfl) (by kernel_rfl) (by kernel_rfl) ?_
 refine sem_set ⟨[(0, (.agg (c_Piece x0)))], []⟩ (by kernel_rfl) ?_
 refine z3 2 ⟨[(1, (.ptr 1 0))], [(1, .box (c_Piece x0))]⟩ (by kernel_rfl) ?_
 refine sem_seq (by kernel_rfl) ?_
 refine sem_block (by kernel_rfl) ?_
 refine sem_seq (by kernel_rfl) ?_
 obtain ⟨j18, hj18, h⟩ := bindS h
 refine sem_regionC ⟨[(1, (.ptr 500000 0)), (11, (vB j18))], [(500000, .box (c_Piece x0))]⟩ (by kernel_rfl) ?_ (fun τ hτ => ?_)
 ·replace h := hj18
  refine evs_run 2 (by kernel_rfl) ?_
  obtain ⟨r19, hr19, h⟩ := bindS h
  refine evs_callP [] (by kernel_rfl) (W.part_ValidName_ok hr19) (by kernel_rfl) (.inl rfl) (by kernel_rfl) ?_
  refine evs_run 2 (by kernel_rfl) ?_
  refine evs_split r19 (fun b0 => ⟨[(1, (.ptr 1 0)), (16, (vB (!b0)))], [(1, .box (c_Piece x0))]⟩) (by kernel_rfl) (fun hb => ?_) (fun hb => ?_)
  ·replace h := iteT hb h
   refine evs_run 2 (by kernel_rfl) ?_
   obtain ⟨r20, hr20, h⟩ := bindS h
   refine evs_callP [] (by kernel_rfl) (W.part_ValidName_ok hr20) (by kernel_rfl) (.inl rfl) (by kernel_rfl) ?_
   refine z6 3 (by kernel_rfl) (fun τ hτ => ?_)
   obtain rfl := Option.some.inj h
   exact leafC hτ (subR_prep [] [(1, 500000)] (by kernel_rfl) rfl rfl (by kernel_rfl))
  ·replace h := iteF hb h
   refine z6 6 (by kernel_rfl) (fun τ hτ => ?_)
   obtain rfl := Option.some.inj h
   exact leafC hτ (subR_prep [] [(1, 500000)] (by kernel_rfl) rfl rfl (by kernel_rfl))
 refine th_normalS hτ ⟨[(1, (.ptr 500000 0)), (11, (vB j18))], [(500000, .box (c_Piece x0))]⟩ (here (by kernel_rfl)) ?_
 refine sem_cond j18 (by kernel_rfl) (by kernel_rfl) (fun hb => ?_) (fun hb => ?_)
 ·replace h := iteT hb h
  refine z8 1 ⟨[(2, (vI 2))], []⟩ (by kernel_rfl) (fun τ hτ => ?_)
  refine bl_ret ?_
  refine th_ret ?_
  obtain rfl := Option.some.inj h
  exact rk_ret hτ [(2, (vI 2))] (here (by kernel_rfl)) (by kernel_rfl)
 ·replace h := iteF hb h
  refine z7 (by kernel_rfl) ?_
  refine evs_run 4 (by kernel_rfl) ?_
  obtain ⟨r22, hr22, h⟩ := bindS h
  refine evs_callP [] (by kernel_rfl) (W.nest_plain_ok hr22) (by kernel_rfl) (.inl rfl) (by kernel_rfl) ?_
  refine z1 2 ⟨[(1, (.ptr 500000 0)), (22, (vB (!r22)))], [(500000, .box (c_Piece x0))]⟩ (by kernel_rfl) ?_
  refine sem_cond (!r22) (by kernel_rfl) (by kernel_rfl) (fun hb => ?_) (fun hb => ?_)
  ·replace h := iteT hb h
   refine z8 1 ⟨[(2, (vI 1))], []⟩ (by kernel_rfl) (fun τ hτ => ?_)
   refine bl_ret ?_
   refine th_ret ?_
   obtain rfl := Option.some.inj h
   exact rk_ret hτ [(2, (vI 1))] (here (by kernel_rfl)) (by kernel_rfl)
  ·replace h := iteF hb h
   refine sem_seq (by kernel_rfl) ?_
   obtain ⟨j23, hj23, h⟩ := bindS h
   refine sem_regionC ⟨[(1, (.ptr 500000 0)), (29, (vB j23))], [(500000, .box (c_Piece x0))]⟩ (by kernel_rfl) ?_ (fun τ hτ => ?_)
   ·replace h := hj23
    refine evs_run 2 (by kernel_rfl) ?_
    refine evs_op (st_len (c := c_Rect) (l := x0.Rects) (x := (.sl (List.map c_Rect x0.Rects))) (by kernel_rfl) (by kernel_rfl)) ?_
    refine evs_run 2 (by kernel_rfl) ?_
    refine evs_split (decide ((x0.Rects.length : Int) > 12)) (fun b0 => ⟨[(1, (.ptr 500000 0)), (34, (vB b0))], [(500000, .box (c_Piece x0))]⟩) (by kernel_rfl) (fun hb => ?_) (fun hb => ?_)
    ·replace h := iteT hb h
     refine z6 12 (by kernel_rfl) (fun τ hτ => ?_)
     obtain rfl := Option.some.inj h
     exact leafC hτ (here (by kernel_rfl))
    ·replace h := iteF hb h
     refine evs_run 2 (by kernel_rfl) ?_
     refine evs_op (st_len (c := c_Rect) (l := x0.Cuts) (x := (.sl (List.map c_Rect x0.Cuts))) (by kernel_rfl) (by kernel_rfl)) ?_
     refine evs_run 3 (by kernel_rfl) ?_
     refine evs_split (decide ((x0.Cuts.length : Int) > 12)) (fun b0 => ⟨[(1, (.ptr 500000 0)), (40, (vB b0))], [(500000, .box (c_Piece x0))]⟩) (by kernel_rfl) (fun hb => ?_) (fun hb => ?_)
     ·replace h := iteT hb h
      refine z6 6 (by kernel_rfl) (fun τ hτ => ?_)
      obtain rfl := Option.some.inj h
      exact leafC hτ (here (by kernel_rfl))
     ·replace h := iteF hb h
      refine evs_run 2 (by kernel_rfl) ?_
      refine evs_op (st_len (c := c_Rect) (l := x0.Forms) (x := (.sl (List.map c_Rect x0.Forms))) (by kernel_rfl) (by kernel_rfl)) ?_
      refine z6 3 (by kernel_rfl) (fun τ hτ => ?_)
      obtain rfl := Option.some.inj h
      exact leafC hτ (here (by kernel_rfl))
   refine th_normalS hτ ⟨[(1, (.ptr 500000 0)), (29, (vB j23))], [(500000, .box (c_Piece x0))]⟩ (here (by kernel_rfl)) ?_
   refine sem_cond j23 (by kernel_rfl) (by kernel_rfl) (fun hb => ?_) (fun hb => ?_)
   ·replace h := iteT hb h
    refine z8 1 ⟨[(2, (vI 4))], []⟩ (by kernel_rfl) (fun τ hτ => ?_)
    refine bl_ret ?_
    refine th_ret ?_
    obtain rfl := Option.some.inj h
    exact rk_ret hτ [(2, (vI 4))] (here (by kernel_rfl)) (by kernel_rfl)
   ·replace h := iteF hb h
    refine sem_seq (by kernel_rfl) ?_
    obtain ⟨j27, hj27, h⟩ := bindS h
    refine sem_regionC ⟨[(1, (.ptr 500000 0)), (46, (vB j27))], [(500000, .box (c_Piece x0))]⟩ (by kernel_rfl) ?_ (fun τ hτ => ?_)
    ·replace h := hj27
     refine evs_run 2 (by kernel_rfl) ?_
     refine evs_op (st_len (c := c_Rect) (l := x0.Rects) (x := (.sl (List.map c_Rect x0.Rects))) (by kernel_rfl) (by kernel_rfl)) ?_
     refine evs_run 2 (by kernel_rfl) ?_
     refine evs_split ((x0.Rects.length : Int) == 0) (fun b0 => ⟨[(1, (.ptr 500000 0)), (51, (vB b0))], [(500000, .box (c_Piece x0))]⟩) (by kernel_rfl) (fun hb => ?_) (fun hb => ?_)
     ·replace h := iteT hb h
      refine z6 18 (by kernel_rfl) (fun τ hτ => ?_)
      obtain rfl := Option.some.inj h
      exact leafC hτ (here (by kernel_rfl))
     ·replace h := iteF hb h
      refine evs_run 2 (by kernel_rfl) ?_
      obtain ⟨r28, hr28, h⟩ := bindS h
      refine evs_callP [] (by kernel_rfl) (W.nest_valid_ok hr28) (by kernel_rfl) (.inl rfl) (by kernel_rfl) ?_
      refine evs_run 3 (by kernel_rfl) ?_
      refine evs_split r28 (fun b0 => ⟨[(1, (.ptr 500000 0)), (57, (vB (!b0)))], [(500000, .box (c_Piece x0))]⟩) (by kernel_rfl) (fun hb => ?_) (fun hb => ?_)
      ·replace h := iteT hb h
       refine evs_run 2 (by kernel_rfl) ?_
       obtain ⟨r29, hr29, h⟩ := bindS h
       refine evs_callP [] (by kernel_rfl) (W.nest_valid_ok hr29) (by kernel_rfl) (.inl rfl) (by kernel_rfl) ?_
       refine evs_run 3 (by kernel_rfl) ?_
       refine evs_split r29 (fun b0 => ⟨[(1, (.ptr 500000 0)), (63, (vB (!b0)))], [(500000, .box (c_Piece x0))]⟩) (by kernel_rfl) (fun hb => ?_) (fun hb => ?_)
       ·replace h := iteT hb h
        refine evs_run 2 (by kernel_rfl) ?_
        obtain ⟨r30, hr30, h⟩ := bindS h
        refine evs_callP [] (by kernel_rfl) (W.nest_valid_ok hr30) (by kernel_rfl) (.inl rfl) (by kernel_rfl) ?_
        refine z6 3 (by kernel_rfl) (fun τ hτ => ?_)
        obtain rfl := Option.some.inj h
        exact leafC hτ (here (by kernel_rfl))
       ·replace h := iteF hb h
        refine z6 6 (by kernel_rfl) (fun τ hτ => ?_)
        obtain rfl := Option.some.inj h
        exact leafC hτ (here (by kernel_rfl))
      ·replace h := iteF hb h
       refine z6 12 (by kernel_rfl) (fun τ hτ => ?_)
       obtain rfl := Option.some.inj h
       exact leafC hτ (here (by kernel_rfl))
    refine th_normalS hτ ⟨[(1, (.ptr 500000 0)), (46, (vB j27))], [(500000, .box (c_Piece x0))]⟩ (here (by kernel_rfl)) ?_
    refine sem_cond j27 (by kernel_rfl) (by kernel_rfl) (fun hb => ?_) (fun hb => ?_)
    ·replace h := iteT hb h
     refine z8 1 ⟨[(2, (vI 1))], []⟩ (by kernel_rfl) (fun τ hτ => ?_)
     refine bl_ret ?_
     refine th_ret ?_
     obtain rfl := Option.some.inj h
     exact rk_ret hτ [(2, (vI 1))] (here (by kernel_rfl)) (by kernel_rfl)
    ·replace h := iteF hb h
     refine sem_skipS (by kernel_rfl) (fun τ hτ => ?_)
     refine bl_normal ?_
     refine th_normalS hτ ⟨[(1, (.ptr 500000 0))], [(500000, .box (c_Piece x0))]⟩ (here (by kernel_rfl)) ?_
     refine sem_seq (by kernel_rfl) ?_
     refine sem_drawN [] [] [] [] [] 11 (by kernel_rfl) (by kernel_rfl) (by kernel_rfl) ?_
     refine evd_run 2 (by kernel_rfl) ?_
     obtain ⟨x35, hx35, h⟩ := bindS h
     refine evd_val (by kernel_rfl) (st_idx (c := c_Rect) (l := x0.Rects) (i := 0) (kd := .i64) (sz := 4) (by kernel_rfl) hx35 rfl) (by kernel_rfl) (by kernel_rfl) ?_
     refine evd_run 4 (by kernel_rfl) ?_
     obtain ⟨x36, hx36, h⟩ := bindS h
     refine evd_val (by kernel_rfl) (st_idx (c := c_Rect) (l := x0.Rects) (i := 0) (kd := .i64) (sz := 4) (by kernel_rfl) hx36 rfl) (by kernel_rfl) (by kernel_rfl) ?_
     refine evd_run 3 (by kernel_rfl) ?_
     refine evd_end (by kernel_rfl) ?_
     refine evo_run 1 (by kernel_rfl) ?_
     refine evo_endS (by kernel_rfl) (fun τ hτ => ?_)
     refine th_normalS hτ ⟨[(1, (.ptr 500000 0)), (3, (vI x35.X)), (4, (vI x36.Y))], [(500000, .box (c_Piece x0))]⟩ (here (by kernel_rfl)) ?_
     refine sem_seq (by kernel_rfl) ?_
     refine z7 (by kernel_rfl) ?_
     refine evs_run 2 (by kernel_rfl) ?_
     refine evs_op (st_len (c := c_Rect) (l := x0.Rects) (x := (.sl (List.map c_Rect x0.Rects))) (by kernel_rfl) (by kernel_rfl)) ?_
     refine z1 1 ⟨[(1, (.ptr 500000 0)), (3, (vI x35.X)), (4, (vI x36.Y)), (80, (.sl (List.map c_Rect x0.Rects))), (81, (vI (x0.Rects.length : Int))), (82, (vI 0))], [(500000, .box (c_Piece x0))]⟩ (by kernel_rfl) ?_
     refine sem_block (by kernel_rfl) ?_
     obtain ⟨x66, hx66, h⟩ := bindS h
     refine sem_loopS (fun (s57 : Int × Int × Int) => ⟨[(1, (.ptr 500000 0)), (3, (vI s57.1)), (4, (vI s57.2.1)), (80, (.sl (List.map c_Rect x0.Rects))), (81, (vI (x0.Rects.length : Int))), (82, (vI s57.2.2))], [(500000, .box (c_Piece x0))]⟩) (fun (x66 : Int × Int) => (.exit 1, ⟨[(1, (.ptr 500000 0)), (3, (vI x66.1)), (4, (vI x66.2))], [(500000, .box (c_Piece x0))]⟩)) (nest_ValidatePiece_l1 x0) (x35.X, x36.Y, 0) x66 (by kernel_rfl) (here (by kernel_rfl)) hx66 ?_ ?_ ?_
     ·intro s57 r h
      refine z3 1 ⟨[(1, (.ptr 500000 0)), (3, (vI s57.1)), (4, (vI s57.2.1)), (80, (.sl (List.map c_Rect x0.Rects))), (81, (vI (x0.Rects.length : Int))), (82, (vI s57.2.2)), (83, (vB (decide (s57.2.2 < (x0.Rects.length : Int)))))], [(500000, .box (c_Piece x0))]⟩ (by kernel_rfl) ?_
      refine sem_seq (by kernel_rfl) ?_
      refine sem_cond (decide (s57.2.2 < (x0.Rects.length : Int))) (by kernel_rfl) (by kernel_rfl) (fun hb => ?_) (fun hb => ?_)
      ·replace h := iteT hb h
       refine z4 ⟨[(1, (.ptr 500000 0)), (3, (vI s57.1)), (4, (vI s57.2.1)), (80, (.sl (List.map c_Rect x0.Rects))), (81, (vI (x0.Rects.length : Int))), (82, (vI s57.2.2))], [(500000, .box (c_Piece x0))]⟩ (by kernel_rfl) ?_
       refine sem_seq (by kernel_rfl) ?_
       refine sem_block (by kernel_rfl) ?_
       refine z7 (by kernel_rfl) ?_
       obtain ⟨x65, hx65, h⟩ := bindS h
       refine evs_op (st_idx (c := c_Rect) (l := x0.Rects) (i := s57.2.2) (kd := .i64) (sz := 4) (by kernel_rfl) hx65 rfl) ?_
       refine z1 3 ⟨[(1, (.ptr 500000 0)), (3, (vI s57.1)), (4, (vI s57.2.1)), (6, (.ptr 6 0)), (80, (.sl (List.map c_Rect x0.Rects))), (81, (vI (x0.Rects.length : Int))), (82, (vI s57.2.2))], [(6, .box (c_Rect x65)), (500000, .box (c_Piece x0))]⟩ (by kernel_rfl) ?_
       refine sem_drawN [] [] [] [] [] 9 (by kernel_rfl) (by kernel_rfl) (by kernel_rfl) ?_
       refine evd_run 9 (by kernel_rfl) ?_
       refine evd_end (by kernel_rfl) ?_
       refine evo_run 1 (by kernel_rfl) ?_
       refine evo_endS (by kernel_rfl) (fun τ hτ => ?_)
       refine bl_normal ?_
       refine th_normalS hτ ⟨[(1, (.ptr 500000 0)), (3, (vI (imin s57.1 x65.X))), (4, (vI (imin s57.2.1 x65.Y))), (80, (.sl (List.map c_Rect x0.Rects))), (81, (vI (x0.Rects.length : Int))), (82, (vI s57.2.2))], [(500000, .box (c_Piece x0))]⟩ (here (by kernel_rfl)) ?_
       refine sem_region (by kernel_rfl) ?_
       refine z6 2 (by kernel_rfl) (fun τ hτ => ?_)
       obtain rfl := Option.some.inj h
       exact lk_nextS hτ (here (by kernel_rfl))
      ·replace h := iteF hb h
       refine sem_exitS 1 (by kernel_rfl) rfl (fun τ hτ => ?_)
       refine th_exit ?_
       obtain rfl := Option.some.inj h
       exact lk_outS hτ rfl (here (by kernel_rfl))
     ·intro x
      rfl
     ·intro τ hτ
      refine bl_hit (by kernel_rfl) ?_
      refine th_normalS hτ ⟨[(1, (.ptr 500000 0)), (3, (vI x66.1)), (4, (vI x66.2))], [(500000, .box (c_Piece x0))]⟩ (here (by kernel_rfl)) ?_
      refine sem_seq (by kernel_rfl) ?_
      refine sem_seq (by kernel_rfl) ?_
      obtain ⟨j68, hj68, h⟩ := bindS h
      refine sem_regionC ⟨[(1, (.ptr 500000 0)), (100, (vB j68))], [(500000, .box (c_Piece x0))]⟩ (by kernel_rfl) ?_ (fun τ hτ => ?_)
      ·replace h := hj68
       refine evs_run 3 (by kernel_rfl) ?_
       refine evs_split (x66.1 != 0) (fun b0 => ⟨[(1, (.ptr 500000 0)), (4, (vI x66.2)), (97, (vB b0))], [(500000, .box (c_Piece x0))]⟩) (by kernel_rfl) (fun hb => ?_) (fun hb => ?_)
       ·replace h := iteT hb h
        refine z6 3 (by kernel_rfl) (fun τ hτ => ?_)
        obtain rfl := Option.some.inj h
        exact leafC hτ (here (by kernel_rfl))
       ·replace h := iteF hb h
        refine z6 3 (by kernel_rfl) (fun τ hτ => ?_)
        obtain rfl := Option.some.inj h
        exact leafC hτ (here (by kernel_rfl))
      refine th_normalS hτ ⟨[(1, (.ptr 500000 0)), (100, (vB j68))], [(500000, .box (c_Piece x0))]⟩ (here (by kernel_rfl)) ?_
      refine sem_cond j68 (by kernel_rfl) (by kernel_rfl) (fun hb => ?_) (fun hb => ?_)
      ·replace h := iteT hb h
       refine z8 1 ⟨[(2, (vI 1))], []⟩ (by kernel_rfl) (fun τ hτ => ?_)
       refine th_ret ?_
       obtain rfl := Option.some.inj h
       exact rk_ret hτ [(2, (vI 1))] (here (by kernel_rfl)) (by kernel_rfl)
      ·replace h := iteF hb h
       refine z4 ⟨[(1, (.ptr 500000 0))], [(500000, .box (c_Piece x0))]⟩ (by kernel_rfl) ?_
       refine sem_seq (by kernel_rfl) ?_
       refine z7 (by kernel_rfl) ?_
       refine evs_run 2 (by kernel_rfl) ?_
       refine evs_op (st_len (c := c_Rect) (l := x0.Rects) (x := (.sl (List.map c_Rect x0.Rects))) (by kernel_rfl) (by kernel_rfl)) ?_
       refine z1 1 ⟨[(1, (.ptr 500000 0)), (102, (.sl (List.map c_Rect x0.Rects))), (103, (vI (x0.Rects.length : Int))), (104, (vI 0))], [(500000, .box (c_Piece x0))]⟩ (by kernel_rfl) ?_
       refine sem_block (by kernel_rfl) ?_
       obtain ⟨x472, hx472, h⟩ := bindS h
       refine sem_loopS (fun (s339 : Int) => ⟨[(1, (.ptr 500000 0)), (102, (.sl (List.map c_Rect x0.Rects))), (103, (vI (x0.Rects.length : Int))), (104, (vI s339))], [(500000, .box (c_Piece x0))]⟩) (fun (x472 : Unit ⊕ Unit) => match x472 with | .inl j473 => (.ret, ⟨[(2, (vI 7))], []⟩) | .inr j474 => (.exit 3, ⟨[(1, (.ptr 500000 0))], [(500000, .box (c_Piece x0))]⟩)) (nest_ValidatePiece_l3 x0) 0 x472 (by kernel_rfl) (here (by kernel_rfl)) hx472 ?_ ?_ ?_
       ·intro s339 r h
        refine z3 1 ⟨[(1, (.ptr 500000 0)), (102, (.sl (List.map c_Rect x0.Rects))), (103, (vI (x0.Rects.length : Int))), (104, (vI s339)), (105, (vB (decide (s339 < (x0.Rects.length : Int)))))], [(500000, .box (c_Piece x0))]⟩ (by kernel_rfl) ?_
        refine sem_seq (by kernel_rfl) ?_
        refine sem_cond (decide (s339 < (x0.Rects.length : Int))) (by kernel_rfl) (by kernel_rfl) (fun hb => ?_) (fun hb => ?_)
        ·replace h := iteT hb h
         refine z4 ⟨[(1, (.ptr 500000 0)), (102, (.sl (List.map c_Rect x0.Rects))), (103, (vI (x0.Rects.length : Int))), (104, (vI s339))], [(500000, .box (c_Piece x0))]⟩ (by kernel_rfl) ?_
         refine sem_seq (by kernel_rfl) ?_
         refine sem_block (by kernel_rfl) ?_
         refine z7 (by kernel_rfl) ?_
         refine evs_run 1 (by kernel_rfl) ?_
         obtain ⟨x440, hx440, h⟩ := bindS h
         refine evs_op (st_idx (c := c_Rect) (l := x0.Rects) (i := s339) (kd := .i64) (sz := 4) (by kernel_rfl) hx440 rfl) ?_
         refine z1 4 ⟨[(1, (.ptr 500000 0)), (7, (vI s339)), (8, (.ptr 8 0)), (102, (.sl (List.map c_Rect x0.Rects))), (103, (vI (x0.Rects.length : Int))), (104, (vI s339))], [(8, .box (c_Rect x440)), (500000, .box (c_Piece x0))]⟩ (by kernel_rfl) ?_
         refine z7 (by kernel_rfl) ?_
         refine evs_run 3 (by kernel_rfl) ?_
         obtain ⟨l442, hl442, h⟩ := bindS h
         refine evs_op (st_slH (c := c_Rect) (l := x0.Rects) (sz := 4) (hi := s339) (k2 := .i64) (by kernel_rfl) hl442) ?_
         refine evs_op (st_len (c := c_Rect) (l := l442) (x := (.sl (List.map c_Rect l442))) (by kernel_rfl) (by kernel_rfl)) ?_
         refine z1 1 ⟨[(1, (.ptr 500000 0)), (8, (.ptr 8 0)), (102, (.sl (List.map c_Rect x0.Rects))), (103, (vI (x0.Rects.length : Int))), (104, (vI s339)), (112, (.sl (List.map c_Rect l442))), (113, (vI (l442.length : Int))), (114, (vI 0))], [(8, .box (c_Rect x440)), (500000, .box (c_Piece x0))]⟩ (by kernel_rfl) ?_
         refine sem_block (by kernel_rfl) ?_
         obtain ⟨x469, hx469, h⟩ := bindS h
         refine sem_loopS (fun (s452 : Int) => ⟨[(1, (.ptr 500000 0)), (8, (.ptr 500001 0)), (102, (.sl (List.map c_Rect x0.Rects))), (103, (vI (x0.Rects.length : Int))), (104, (vI s339)), (112, (.sl (List.map c_Rect l442))), (113, (vI (l442.length : Int))), (114, (vI s452))], [(500000, .box (c_Piece x0)), (500001, .box (c_Rect x440))]⟩) (fun (x469 : Unit ⊕ Unit) => match x469 with | .inl j470 => (.ret, ⟨[(2, (vI 7))], []⟩) | .inr j471 => (.exit 5, ⟨[(1, (.ptr 500000 0)), (102, (.sl (List.map c_Rect x0.Rects))), (103, (vI (x0.Rects.length : Int))), (104, (vI s339))], [(500000, .box (c_Piece x0))]⟩)) (nest_ValidatePiece_l2 x440 l442) 0 x469 (by kernel_rfl) (subR_prep [] [(8, 500001), (500000, 500000)] (by kernel_rfl) rfl rfl (by kernel_rfl)) hx469 ?_ ?_ ?_
         ·intro s452 r h
          refine z3 1 ⟨[(1, (.ptr 500000 0)), (8, (.ptr 500001 0)), (102, (.sl (List.map c_Rect x0.Rects))), (103, (vI (x0.Rects.length : Int))), (104, (vI s339)), (112, (.sl (List.map c_Rect l442))), (113, (vI (l442.length : Int))), (114, (vI s452)), (115, (vB (decide (s452 < (l442.length : Int)))))], [(500000, .box (c_Piece x0)), (500001, .box (c_Rect x440))]⟩ (by kernel_rfl) ?_
          refine sem_seq (by kernel_rfl) ?_
          refine sem_cond (decide (s452 < (l442.length : Int))) (by kernel_rfl) (by kernel_rfl) (fun hb => ?_) (fun hb => ?_)
          ·replace h := iteT hb h
           refine z4 ⟨[(1, (.ptr 500000 0)), (8, (.ptr 500001 0)), (102, (.sl (List.map c_Rect x0.Rects))), (103, (vI (x0.Rects.length : Int))), (104, (vI s339)), (112, (.sl (List.map c_Rect l442))), (113, (vI (l442.length : Int))), (114, (vI s452))], [(500000, .box (c_Piece x0)), (500001, .box (c_Rect x440))]⟩ (by kernel_rfl) ?_
           refine sem_seq (by kernel_rfl) ?_
           refine sem_block (by kernel_rfl) ?_
           refine z7 (by kernel_rfl) ?_
           obtain ⟨x466, hx466, h⟩ := bindS h
           refine evs_op (st_idx (c := c_Rect) (l := l442) (i := s452) (kd := .i64) (sz := 4) (by kernel_rfl) hx466 rfl) ?_
           refine z1 3 ⟨[(1, (.ptr 500000 0)), (8, (.ptr 500001 0)), (10, (.ptr 10 0)), (102, (.sl (List.map c_Rect x0.Rects))), (103, (vI (x0.Rects.length : Int))), (104, (vI s339)), (112, (.sl (List.map c_Rect l442))), (113, (vI (l442.length : Int))), (114, (vI s452))], [(10, .box (c_Rect x466)), (500000, .box (c_Piece x0)), (500001, .box (c_Rect x440))]⟩ (by kernel_rfl) ?_
           refine z7 (by kernel_rfl) ?_
           refine evs_run 2 (by kernel_rfl) ?_
           obtain ⟨r468, hr468, h⟩ := bindS h
           refine evs_callP [] (by kernel_rfl) (W.geom_Overlap_ok hr468) (by kernel_rfl) (.inl rfl) (by kernel_rfl) ?_
           refine evs_endS (by kernel_rfl) (fun τ hτ => ?_)
           refine th_normalS hτ ⟨[(1, (.ptr 500000 0)), (8, (.ptr 500001 0)), (102, (.sl (List.map c_Rect x0.Rects))), (103, (vI (x0.Rects.length : Int))), (104, (vI s339)), (112, (.sl (List.map c_Rect l442))), (113, (vI (l442.length : Int))), (114, (vI s452)), (120, (vB r468))], [(500000, .box (c_Piece x0)), (500001, .box (c_Rect x440))]⟩ (here (by kernel_rfl)) ?_
           refine sem_cond r468 (by kernel_rfl) (by kernel_rfl) (fun hb => ?_) (fun hb => ?_)
           ·replace h := iteT hb h
            refine z8 1 ⟨[(2, (vI 7))], []⟩ (by kernel_rfl) (fun τ hτ => ?_)
            refine bl_ret ?_
            refine th_ret ?_
            obtain rfl := Option.some.inj h
            exact lk_outS hτ rfl (here (by kernel_rfl))
           ·replace h := iteF hb h
            refine sem_skipS (by kernel_rfl) (fun τ hτ => ?_)
            refine bl_normal ?_
            refine th_normalS hτ ⟨[(1, (.ptr 500000 0)), (8, (.ptr 500001 0)), (102, (.sl (List.map c_Rect x0.Rects))), (103, (vI (x0.Rects.length : Int))), (104, (vI s339)), (112, (.sl (List.map c_Rect l442))), (113, (vI (l442.length : Int))), (114, (vI s452))], [(500000, .box (c_Piece x0)), (500001, .box (c_Rect x440))]⟩ (here (by kernel_rfl)) ?_
            refine sem_region (by kernel_rfl) ?_
            refine z6 2 (by kernel_rfl) (fun τ hτ => ?_)
            obtain rfl := Option.some.inj h
            exact lk_nextS hτ (here (by kernel_rfl))
          ·replace h := iteF hb h
           refine sem_exitS 5 (by kernel_rfl) rfl (fun τ hτ => ?_)
           refine th_exit ?_
           obtain rfl := Option.some.inj h
           exact lk_outS hτ rfl (here (by kernel_rfl))
         ·intro x
          rcases x with _ | _ <;> rfl
         ·intro τ hτ
          rcases x469 with j470 | j471
          ·refine bl_ret ?_
           refine bl_ret ?_
           refine th_ret ?_
           obtain rfl := Option.some.inj h
           exact lk_outS hτ rfl (here (by kernel_rfl))
          ·refine bl_hit (by kernel_rfl) ?_
           refine bl_normal ?_
           refine th_normalS hτ ⟨[(1, (.ptr 500000 0)), (102, (.sl (List.map c_Rect x0.Rects))), (103, (vI (x0.Rects.length : Int))), (104, (vI s339))], [(500000, .box (c_Piece x0))]⟩ (here (by kernel_rfl)) ?_
           refine sem_region (by kernel_rfl) ?_
           refine z6 2 (by kernel_rfl) (fun τ hτ => ?_)
           obtain rfl := Option.some.inj h
           exact lk_nextS hτ (here (by kernel_rfl))
        ·replace h := iteF hb h
         refine sem_exitS 3 (by kernel_rfl) rfl (fun τ hτ => ?_)
         refine th_exit ?_
         obtain rfl := Option.some.inj h
         exact lk_outS hτ rfl (here (by kernel_rfl))
       ·intro x
        rcases x with _ | _ <;> rfl
       ·intro τ hτ
        rcases x472 with j473 | j474
        ·refine bl_ret ?_
         refine th_ret ?_
         obtain rfl := Option.some.inj h
         exact rk_ret hτ [(2, (vI 7))] (here (by kernel_rfl)) (by kernel_rfl)
        ·refine bl_hit (by kernel_rfl) ?_
         refine th_normalS hτ ⟨[(1, (.ptr 500000 0))], [(500000, .box (c_Piece x0))]⟩ (here (by kernel_rfl)) ?_
         refine sem_seq (by kernel_rfl) ?_
         refine z7 (by kernel_rfl) ?_
         refine evs_run 2 (by kernel_rfl) ?_
         obtain ⟨r478, hr478, h⟩ := bindS h
         refine evs_callP [] (by kernel_rfl) (W.nest_connected_ok hr478) (by kernel_rfl) (.inl rfl) (by kernel_rfl) ?_
         refine z1 1 ⟨[(1, (.ptr 500000 0)), (126, (vB (!r478)))], [(500000, .box (c_Piece x0))]⟩ (by kernel_rfl) ?_
         refine sem_cond (!r478) (by kernel_rfl) (by kernel_rfl) (fun hb => ?_) (fun hb => ?_)
         ·replace h := iteT hb h
          refine z8 1 ⟨[(2, (vI 6))], []⟩ (by kernel_rfl) (fun τ hτ => ?_)
          refine th_ret ?_
          obtain rfl := Option.some.inj h
          exact rk_ret hτ [(2, (vI 6))] (here (by kernel_rfl)) (by kernel_rfl)
         ·replace h := iteF hb h
          refine z4 ⟨[(1, (.ptr 500000 0))], [(500000, .box (c_Piece x0))]⟩ (by kernel_rfl) ?_
          refine z7 (by kernel_rfl) ?_
          refine evs_run 1 (by kernel_rfl) ?_
          obtain ⟨r480, hr480, h⟩ := bindS h
          refine evs_callP [] (by kernel_rfl) (W.nest_inside_ok hr480) (by kernel_rfl) (.inl rfl) (by kernel_rfl) ?_
          refine z1 1 ⟨[(2, (vI r480))], []⟩ (by kernel_rfl) ?_
          refine sem_retS (by kernel_rfl) (fun τ hτ => ?_)
          obtain rfl := Option.some.inj h
          exact rk_ret hτ [(2, (vI r480))] (here (by kernel_rfl)) (by kernel_rfl)
theorem W.sheetmetalref06_least_ok {l : (List Rect)} {r : Int × Int} (h : sheetmetalref06_least l = some r) : PC G.P 61 [(.sl (List.map c_Rect l))] [] (.tup [(vI r.1), (vI r.2)]) [] := by
 refine pc_of G (fn := Tryz.f61) Tryz.func61 (by kernel_rfl) (by kernel_rfl) (by kernel_rfl) (by kernel_rfl) (by kernel_rfl) ?_
 refine sem_set ⟨[(0, (.sl (List.map c_Rect l)))], []⟩ (by kernel_rfl) ?_
 refine z3 2 ⟨[(0, (.sl (List.map c_Rect l)))], []⟩ (by kernel_rfl) ?_
 refine sem_seq (by kernel_rfl) ?_
 refine sem_drawN [] [] [] [] [] 9 (by kernel_rfl) (by kernel_rfl) (by kernel_rfl) ?_
 refine evd_run 1 (by kernel_rfl) ?_
 obtain ⟨x5, hx5, h⟩ := bindS h
 refine evd_val (by kernel_rfl) (st_idx (c := c_Rect) (l := l) (i := 0) (kd := .i64) (sz := 4) (by kernel_rfl) hx5 rfl) (by kernel_rfl) (by kernel_rfl) ?_
 refine evd_run 3 (by kernel_rfl) ?_
 obtain ⟨x6, hx6, h⟩ := bindS h
 refine evd_val (by kernel_rfl) (st_idx (c := c_Rect) (l := l) (i := 0) (kd := .i64) (sz := 4) (by kernel_rfl) hx6 rfl) (by kernel_rfl) (by kernel_rfl) ?_
 refine evd_run 3 (by kernel_rfl) ?_
 refine evd_end (by kernel_rfl) ?_
 refine evo_run 1 (by kernel_rfl) ?_
 refine evo_endS (by kernel_rfl) (fun τ hτ => ?_)
 refine th_normalS hτ ⟨[(0, (.sl (List.map c_Rect l))), (4, (vI x5.X)), (5, (vI x6.Y))], []⟩ (here (by kernel_rfl)) ?_
 refine sem_seq (by kernel_rfl) ?_
 refine z3 1 ⟨[(0, (.sl (List.map c_Rect l))), (4, (vI x5.X)), (5, (vI x6.Y)), (6, (vI 1))], []⟩ (by kernel_rfl) ?_
 refine sem_block (by kernel_rfl) ?_
 obtain ⟨x60, hx60, h⟩ := bindS h
 refine sem_loopS (fun (s43 : Int × Int × Int) => ⟨[(0, (.sl (List.map c_Rect l))), (4, (vI s43.1)), (5, (vI s43.2.1)), (6, (vI s43.2.2))], []⟩) (fun (x60 : Int × Int) => (.exit 0, ⟨[(4, (vI x60.1)), (5, (vI x60.2))], []⟩)) (sheetmetalref06_least_l1 l) (x5.X, x6.Y, 1) x60 (by kernel_rfl) (here (by kernel_rfl)) hx60 ?_ ?_ ?_
 ·intro s43 r h
  refine sem_seq (by kernel_rfl) ?_
  refine z7 (by kernel_rfl) ?_
  refine evs_run 2 (by kernel_rfl) ?_
  refine evs_op (st_len (c := c_Rect) (l := l) (x := (.sl (List.map c_Rect l))) (by kernel_rfl) (by kernel_rfl)) ?_
  refine z1 1 ⟨[(0, (.sl (List.map c_Rect l))), (4, (vI s43.1)), (5, (vI s43.2.1)), (6, (vI s43.2.2)), (18, (vB (decide (s43.2.2 < (l.length : Int)))))], []⟩ (by kernel_rfl) ?_
  refine sem_cond (decide (s43.2.2 < (l.length : Int))) (by kernel_rfl) (by kernel_rfl) (fun hb => ?_) (fun hb => ?_)
  ·replace h := iteT hb h
   refine z4 ⟨[(0, (.sl (List.map c_Rect l))), (4, (vI s43.1)), (5, (vI s43.2.1)), (6, (vI s43.2.2))], []⟩ (by kernel_rfl) ?_
   refine sem_seq (by kernel_rfl) ?_
   refine sem_block (by kernel_rfl) ?_
   refine z7 (by kernel_rfl) ?_
   refine evs_run 3 (by kernel_rfl) ?_
   obtain ⟨x57, hx57, h⟩ := bindS h
   refine evs_op (st_idx (c := c_Rect) (l := l) (i := s43.2.2) (kd := .i64) (sz := 4) (by kernel_rfl) hx57 rfl) ?_
   refine z1 4 ⟨[(0, (.sl (List.map c_Rect l))), (4, (vI (imin s43.1 x57.X))), (5, (vI s43.2.1)), (6, (vI s43.2.2))], []⟩ (by kernel_rfl) ?_
   refine sem_region (by kernel_rfl) ?_
   refine evs_run 3 (by kernel_rfl) ?_
   obtain ⟨x59, hx59, h⟩ := bindS h
   refine evs_op (st_idx (c := c_Rect) (l := l) (i := s43.2.2) (kd := .i64) (sz := 4) (by kernel_rfl) hx59 rfl) ?_
   refine z6 4 (by kernel_rfl) (fun τ hτ => ?_)
   refine bl_normal ?_
   refine th_normalS hτ ⟨[(0, (.sl (List.map c_Rect l))), (4, (vI (imin s43.1 x57.X))), (5, (vI (imin s43.2.1 x59.Y))), (6, (vI s43.2.2))], []⟩ (here (by kernel_rfl)) ?_
   refine sem_region (by kernel_rfl) ?_
   refine z6 3 (by kernel_rfl) (fun τ hτ => ?_)
   obtain rfl := Option.some.inj h
   exact lk_nextS hτ (here (by kernel_rfl))
  ·replace h := iteF hb h
   refine sem_exitS 0 (by kernel_rfl) rfl (fun τ hτ => ?_)
   refine th_exit ?_
   obtain rfl := Option.some.inj h
   exact lk_outS hτ rfl (here (by kernel_rfl))
 ·intro x
  rfl
 ·intro τ hτ
  refine bl_hit (by kernel_rfl) ?_
  refine th_normalS hτ ⟨[(4, (vI x60.1)), (5, (vI x60.2))], []⟩ (here (by kernel_rfl)) ?_
  refine z8 4 ⟨[(2, (vI x60.1)), (3, (vI x60.2))], []⟩ (by kernel_rfl) (fun τ hτ => ?_)
  obtain rfl := Option.some.inj h
  exact rk_ret hτ [(2, (vI x60.1)), (3, (vI x60.2))] (here (by kernel_rfl)) (by kernel_rfl)
theorem W.sheetmetalref06_Meets_ok {r0 : Rect} {l : (List Rect)} {r : Bool} (h : sheetmetalref06_Meets r0 l = some r) : PC G.P 62 [(.agg (c_Rect r0)), (.sl (List.map c_Rect l))] [] (vB r) [] := by
 refine pc_of G (fn := Tryz.f62) Tryz.func62 (by kernel_rfl) (by kernel_rfl) (by kernel_rfl) (by kernel_rfl) (by kernel_rfl) ?_
 refine sem_set ⟨[(0, (.agg (c_Rect r0))), (1, (.sl (List.map c_Rect l)))], []⟩ (by kernel_rfl) ?_
 refine z3 2 ⟨[(1, (.sl (List.map c_Rect l))), (2, (.ptr 2 0))], [(2, .box (c_Rect r0))]⟩ (by kernel_rfl) ?_
 refine sem_seq (by kernel_rfl) ?_
 refine z3 1 ⟨[(1, (.sl (List.map c_Rect l))), (2, (.ptr 2 0)), (5, (vI 0))], [(2, .box (c_Rect r0))]⟩ (by kernel_rfl) ?_
 refine sem_block (by kernel_rfl) ?_
 obtain ⟨x80, hx80, h⟩ := bindS h
 refine sem_loopS (fun (s55 : Int) => ⟨[(1, (.sl (List.map c_Rect l))), (2, (.ptr 500000 0)), (5, (vI s55))], [(500000, .box (c_Rect r0))]⟩) (fun (x80 : Unit ⊕ Unit) => match x80 with | .inl j81 => (.ret, ⟨[(4, (vB true))], []⟩) | .inr j82 => (.exit 0, ⟨[], []⟩)) (sheetmetalref06_Meets_l1 r0 l) 0 x80 (by kernel_rfl) (subR_prep [] [(2, 500000)] (by kernel_rfl) rfl rfl (by kernel_rfl)) hx80 ?_ ?_ ?_
 ·intro s55 r h
  refine sem_seq (by kernel_rfl) ?_
  refine z7 (by kernel_rfl) ?_
  refine evs_run 2 (by kernel_rfl) ?_
  refine evs_op (st_len (c := c_Rect) (l := l) (x := (.sl (List.map c_Rect l))) (by kernel_rfl) (by kernel_rfl)) ?_
  refine z1 1 ⟨[(1, (.sl (List.map c_Rect l))), (2, (.ptr 500000 0)), (5, (vI s55)), (9, (vB (decide (s55 < (l.length : Int)))))], [(500000, .box (c_Rect r0))]⟩ (by kernel_rfl) ?_
  refine sem_cond (decide (s55 < (l.length : Int))) (by kernel_rfl) (by kernel_rfl) (fun hb => ?_) (fun hb => ?_)
  ·replace h := iteT hb h
   refine z4 ⟨[(1, (.sl (List.map c_Rect l))), (2, (.ptr 500000 0)), (5, (vI s55))], [(500000, .box (c_Rect r0))]⟩ (by kernel_rfl) ?_
   refine sem_seq (by kernel_rfl) ?_
   refine sem_block (by kernel_rfl) ?_
   refine sem_seq (by kernel_rfl) ?_
   refine sem_drawN [] [] [] [] [] 5 (by kernel_rfl) (by kernel_rfl) (by kernel_rfl) ?_
   refine evd_run 3 (by kernel_rfl) ?_
   obtain ⟨x78, hx78, h⟩ := bindS h
   refine evd_val (by kernel_rfl) (st_idx (c := c_Rect) (l := l) (i := s55) (kd := .i64) (sz := 4) (by kernel_rfl) hx78 rfl) (by kernel_rfl) (by kernel_rfl) ?_
   refine evd_run 1 (by kernel_rfl) ?_
   refine evd_end (by kernel_rfl) ?_
   obtain ⟨r79, hr79, h⟩ := bindS h
   refine evo_callP [] (by kernel_rfl) (W.sheetmetalref06_Overlaps_ok hr79) (by kernel_rfl) (.inl rfl) (by kernel_rfl) ?_
   refine evo_endS (by kernel_rfl) (fun τ hτ => ?_)
   refine th_normalS hτ ⟨[(1, (.sl (List.map c_Rect l))), (2, (.ptr 500000 0)), (5, (vI s55)), (17, (vB r79))], [(500000, .box (c_Rect r0))]⟩ (here (by kernel_rfl)) ?_
   refine sem_cond r79 (by kernel_rfl) (by kernel_rfl) (fun hb => ?_) (fun hb => ?_)
   ·replace h := iteT hb h
    refine z8 1 ⟨[(4, (vB true))], []⟩ (by kernel_rfl) (fun τ hτ => ?_)
    refine bl_ret ?_
    refine th_ret ?_
    obtain rfl := Option.some.inj h
    exact lk_outS hτ rfl (here (by kernel_rfl))
   ·replace h := iteF hb h
    refine sem_skipS (by kernel_rfl) (fun τ hτ => ?_)
    refine bl_normal ?_
    refine th_normalS hτ ⟨[(1, (.sl (List.map c_Rect l))), (2, (.ptr 500000 0)), (5, (vI s55))], [(500000, .box (c_Rect r0))]⟩ (here (by kernel_rfl)) ?_
    refine sem_region (by kernel_rfl) ?_
    refine z6 3 (by kernel_rfl) (fun τ hτ => ?_)
    obtain rfl := Option.some.inj h
    exact lk_nextS hτ (here (by kernel_rfl))
  ·replace h := iteF hb h
   refine sem_exitS 0 (by kernel_rfl) rfl (fun τ hτ => ?_)
   refine th_exit ?_
   obtain rfl := Option.some.inj h
   exact lk_outS hτ rfl (here (by kernel_rfl))
 ·intro x
  rcases x with _ | _ <;> rfl
 ·intro τ hτ
  rcases x80 with j81 | j82
  ·refine bl_ret ?_
   refine th_ret ?_
   obtain rfl := Option.some.inj h
   exact rk_ret hτ [(4, (vB true))] (here (by kernel_rfl)) (by kernel_rfl)
  ·refine bl_hit (by kernel_rfl) ?_
   refine th_normalS hτ ⟨[], []⟩ (here (by kernel_rfl)) ?_
   refine z8 1 ⟨[(4, (vB false))], []⟩ (by kernel_rfl) (fun τ hτ => ?_)
   obtain rfl := Option.some.inj h
   exact rk_ret hτ [(4, (vB false))] (here (by kernel_rfl)) (by kernel_rfl)
theorem W.sheetmetalref06_touching_ok {a : Rect} {b : Rect} {r : Bool} (h : sheetmetalref06_touching a b = some r) : PC G.P 98 [(.agg (c_Rect a)), (.agg (c_Rect b))] [] (vB r) [] := by
 refine pc_of G (fn := Tryz.f98) Tryz.func98 (by kernel_rfl) (by kernel_rfl) (by kernel_rfl) (by kernel_rfl) (by kernel_rfl) ?_
 refine sem_set ⟨[(0, (.agg (c_Rect a))), (1, (.agg (c_Rect b)))], []⟩ (by kernel_rfl) ?_
 refine z3 3 ⟨[(2, (.ptr 2 0)), (3, (.ptr 3 0))], [(2, .box (c_Rect a)), (3, .box (c_Rect b))]⟩ (by kernel_rfl) ?_
 refine z3 18 ⟨[(2, (.ptr 2 0)), (3, (.ptr 3 0)), (5, (vI (isub (imin (iadd a.X a.W) (iadd b.X b.W)) (imax a.X b.X))))], [(2, .box (c_Rect a)), (3, .box (c_Rect b))]⟩ (by kernel_rfl) ?_
 refine z3 18 ⟨[(5, (vI (isub (imin (iadd a.X a.W) (iadd b.X b.W)) (imax a.X b.X)))), (6, (vI (isub (imin (iadd a.Y a.H) (iadd b.Y b.H)) (imax a.Y b.Y))))], []⟩ (by kernel_rfl) ?_
 refine sem_seq (by kernel_rfl) ?_
 obtain ⟨j1, hj1, h⟩ := bindS h
 refine sem_regionC ⟨[(4, (vB j1))], []⟩ (by kernel_rfl) ?_ (fun τ hτ => ?_)
 ·replace h := hj1
  refine evs_run 3 (by kernel_rfl) ?_
  refine evs_split ((isub (imin (iadd a.X a.W) (iadd b.X b.W)) (imax a.X b.X)) == 0) (fun b0 => ⟨[(5, (vI (isub (imin (iadd a.X a.W) (iadd b.X b.W)) (imax a.X b.X)))), (6, (vI (isub (imin (iadd a.Y a.H) (iadd b.Y b.H)) (imax a.Y b.Y)))), (43, (vB b0))], []⟩) (by kernel_rfl) (fun hb => ?_) (fun hb => ?_)
  ·replace h := iteT hb h
   refine evs_run 4 (by kernel_rfl) ?_
   refine evs_split (decide ((isub (imin (iadd a.Y a.H) (iadd b.Y b.H)) (imax a.Y b.Y)) > 0)) (fun b0 => ⟨[(5, (vI (isub (imin (iadd a.X a.W) (iadd b.X b.W)) (imax a.X b.X)))), (6, (vI (isub (imin (iadd a.Y a.H) (iadd b.Y b.H)) (imax a.Y b.Y)))), (47, (vB b0))], []⟩) (by kernel_rfl) (fun hb => ?_) (fun hb => ?_)
   ·replace h := iteT hb h
    refine z6 8 (by kernel_rfl) (fun τ hτ => ?_)
    obtain rfl := Option.some.inj h
    exact leafC hτ (here (by kernel_rfl))
   ·replace h := iteF hb h
    refine evs_run 3 (by kernel_rfl) ?_
    refine evs_split ((isub (imin (iadd a.Y a.H) (iadd b.Y b.H)) (imax a.Y b.Y)) == 0) (fun b0 => ⟨[(5, (vI (isub (imin (iadd a.X a.W) (iadd b.X b.W)) (imax a.X b.X)))), (47, (vB false)), (50, (vB b0))], []⟩) (by kernel_rfl) (fun hb => ?_) (fun hb => ?_)
    ·replace h := iteT hb h
     refine z6 5 (by kernel_rfl) (fun τ hτ => ?_)
     obtain rfl := Option.some.inj h
     exact leafC hτ (here (by kernel_rfl))
    ·replace h := iteF hb h
     refine z6 5 (by kernel_rfl) (fun τ hτ => ?_)
     obtain rfl := Option.some.inj h
     exact leafC hτ (here (by kernel_rfl))
  ·replace h := iteF hb h
   refine evs_run 7 (by kernel_rfl) ?_
   refine evs_split ((isub (imin (iadd a.Y a.H) (iadd b.Y b.H)) (imax a.Y b.Y)) == 0) (fun b0 => ⟨[(5, (vI (isub (imin (iadd a.X a.W) (iadd b.X b.W)) (imax a.X b.X)))), (47, (vB false)), (50, (vB b0))], []⟩) (by kernel_rfl) (fun hb => ?_) (fun hb => ?_)
   ·replace h := iteT hb h
    refine z6 5 (by kernel_rfl) (fun τ hτ => ?_)
    obtain rfl := Option.some.inj h
    exact leafC hτ (here (by kernel_rfl))
   ·replace h := iteF hb h
    refine z6 5 (by kernel_rfl) (fun τ hτ => ?_)
    obtain rfl := Option.some.inj h
    exact leafC hτ (here (by kernel_rfl))
 refine th_normalS hτ ⟨[(4, (vB j1))], []⟩ (here (by kernel_rfl)) ?_
 refine sem_retS (by kernel_rfl) (fun τ hτ => ?_)
 obtain rfl := Option.some.inj h
 exact rk_ret hτ [(4, (vB j1))] (here (by kernel_rfl)) (by kernel_rfl)
theorem W.sheetmetalref06_connected_ok {l : (List Rect)} {r : Bool} (h : sheetmetalref06_connected l = some r) : PC G.P 63 [(.sl (List.map c_Rect l))] [] (vB r) [] := by
 refine pc_of G (fn := Tryz.f63) Tryz.func63 (by kernel_rfl) (by kernel_rfl) (by kernel_rfl) (by kernel_rfl) (by kernel_rfl) ?_
 refine sem_set ⟨[(0, (.sl (List.map c_Rect l)))], []⟩ (by kernel_rfl) ?_
 refine z3 1 ⟨[(0, (.sl (List.map c_Rect l)))], []⟩ (by kernel_rfl) ?_
 refine z7 (by kernel_rfl) ?_
 refine evs_run 1 (by kernel_rfl) ?_
 refine evs_op (st_len (c := c_Rect) (l := l) (x := (.sl (List.map c_Rect l))) (by kernel_rfl) (by kernel_rfl)) ?_
 obtain ⟨l2, hl2, h⟩ := bindS h
 refine evs_op (st_mk (c := cB) (z := false) (n := (l.length : Int)) (e := 4) (d := 9) (zs := [(vB false)]) (k1 := .i64) (k2 := .i64) (by kernel_rfl) rfl hl2) ?_
 refine z1 1 ⟨[(0, (.sl (List.map c_Rect l))), (3, (.row (.top 9) 4))], [(9, .row 4 [] (List.map cB l2))]⟩ (by kernel_rfl) ?_
 refine z7 (by kernel_rfl) ?_
 refine evs_at (at_build (e := 3) (d := 10) (es := (List.map cI [0])) (by kernel_rfl)) ?_
 refine z1 1 ⟨[(0, (.sl (List.map c_Rect l))), (3, (.row (.top 9) 4)), (4, (.row (.top 10) 3))], [(9, .row 4 [] (List.map cB l2)), (10, .row 3 [] (List.map cI [0]))]⟩ (by kernel_rfl) ?_
 refine z7 (by kernel_rfl) ?_
 refine evs_run 1 (by kernel_rfl) ?_
 obtain ⟨x4, hx4, h⟩ := bindS h
 refine evs_op (st_idxO (c := cB) (l := l2) (i := 0) (kd := .i64) (kk := (.top 9)) (e := 4) (sz := 1) (by kernel_rfl) (by kernel_rfl) hx4 rfl) ?_
 refine evs_op (st_stO (c := cB) (l := l2) (i := (Int.toNat 0)) (x := x4) (x' := true) (v := (vB true)) (agg := false) (sz := 1) (kk := (.top 9)) (e := 4) (off := 0) (J := []) (o := .row 4 [] (List.map cB (List.set l2 (Int.toNat 0) true))) (by kernel_rfl) (by kernel_rfl) (by kernel_rfl) ((idxS hx4).2) (by kernel_rfl) (by kernel_rfl) (by kernel_rfl)) ?_
 refine evs_endS (by kernel_rfl) (fun τ hτ => ?_)
 refine th_normalS hτ ⟨[(0, (.sl (List.map c_Rect l))), (3, (.row (.top 9) 4)), (4, (.row (.top 10) 3))], [(9, .row 4 [] (List.map cB (List.set l2 (Int.toNat 0) true))), (10, .row 3 [] (List.map cI [0]))]⟩ (here (by kernel_rfl)) ?_
 refine sem_seq (by kernel_rfl) ?_
 refine z3 1 ⟨[(0, (.sl (List.map c_Rect l))), (3, (.row (.top 9) 4)), (4, (.row (.top 10) 3)), (5, (vI 0))], [(9, .row 4 [] (List.map cB (List.set l2 (Int.toNat 0) true))), (10, .row 3 [] (List.map cI [0]))]⟩ (by kernel_rfl) ?_
 refine sem_block (by kernel_rfl) ?_
 obtain ⟨x1522, hx1522, h⟩ := bindS h
 refine sem_loopS (fun (s1017 : Int × (List Bool) × (List Int)) => ⟨[(0, (.sl (List.map c_Rect l))), (3, (.row (.top 500000) 4)), (4, (.row (.top 500001) 3)), (5, (vI s1017.1))], [(500000, .row 4 [] (List.map cB s1017.2.1)), (500001, .row 3 [] (List.map cI s1017.2.2))]⟩) (fun (x1522 : (List Int)) => (.exit 0, ⟨[(0, (.sl (List.map c_Rect l))), (4, (.row (.top 500000) 3))], [(500000, .row 3 [] (List.map cI x1522))]⟩)) (sheetmetalref06_connected_l3 l) (0, (List.set l2 (Int.toNat 0) true), [0]) x1522 (by kernel_rfl) (subR_prep [] [(9, 500000), (10, 500001)] (by kernel_rfl) rfl rfl (by kernel_rfl)) hx1522 ?_ ?_ ?_
 ·intro s1017 r h
  refine sem_seq (by kernel_rfl) ?_
  refine z7 (by kernel_rfl) ?_
  refine evs_run 2 (by kernel_rfl) ?_
  refine evs_op (st_len (c := cI) (l := s1017.2.2) (x := (.row (.top 500001) 3)) (by kernel_rfl) (by kernel_rfl)) ?_
  refine z1 1 ⟨[(0, (.sl (List.map c_Rect l))), (3, (.row (.top 500000) 4)), (4, (.row (.top 500001) 3)), (5, (vI s1017.1)), (16, (vB (decide (s1017.1 < (s1017.2.2.length : Int)))))], [(500000, .row 4 [] (List.map cB s1017.2.1)), (500001, .row 3 [] (List.map cI s1017.2.2))]⟩ (by kernel_rfl) ?_
  refine sem_cond (decide (s1017.1 < (s1017.2.2.length : Int))) (by kernel_rfl) (by kernel_rfl) (fun hb => ?_) (fun hb => ?_)
  ·replace h := iteT hb h
   refine z4 ⟨[(0, (.sl (List.map c_Rect l))), (3, (.row (.top 500000) 4)), (4, (.row (.top 500001) 3)), (5, (vI s1017.1))], [(500000, .row 4 [] (List.map cB s1017.2.1)), (500001, .row 3 [] (List.map cI s1017.2.2))]⟩ (by kernel_rfl) ?_
   refine sem_seq (by kernel_rfl) ?_
   refine sem_block (by kernel_rfl) ?_
   refine z3 1 ⟨[(0, (.sl (List.map c_Rect l))), (3, (.row (.top 500000) 4)), (4, (.row (.top 500001) 3)), (5, (vI s1017.1)), (6, (vI 0))], [(500000, .row 4 [] (List.map cB s1017.2.1)), (500001, .row 3 [] (List.map cI s1017.2.2))]⟩ (by kernel_rfl) ?_
   refine sem_block (by kernel_rfl) ?_
   obtain ⟨x1521, hx1521, h⟩ := bindS h
   refine sem_loopS (fun (s1438 : Int × (List Bool) × (List Int)) => ⟨[(0, (.sl (List.map c_Rect l))), (3, (.row (.top 500000) 4)), (4, (.row (.top 500001) 3)), (5, (vI s1017.1)), (6, (vI s1438.1))], [(500000, .row 4 [] (List.map cB s1438.2.1)), (500001, .row 3 [] (List.map cI s1438.2.2))]⟩) (fun (x1521 : (List Bool) × (List Int)) => (.exit 2, ⟨[(0, (.sl (List.map c_Rect l))), (3, (.row (.top 500000) 4)), (4, (.row (.top 500001) 3)), (5, (vI s1017.1))], [(500000, .row 4 [] (List.map cB x1521.1)), (500001, .row 3 [] (List.map cI x1521.2))]⟩)) (sheetmetalref06_connected_l2 l s1017) (0, s1017.2.1, s1017.2.2) x1521 (by kernel_rfl) (here (by kernel_rfl)) hx1521 ?_ ?_ ?_
   ·intro s1438 r h
    refine sem_seq (by kernel_rfl) ?_
    refine z7 (by kernel_rfl) ?_
    refine evs_run 2 (by kernel_rfl) ?_
    refine evs_op (st_len (c := c_Rect) (l := l) (x := (.sl (List.map c_Rect l))) (by kernel_rfl) (by kernel_rfl)) ?_
    refine z1 1 ⟨[(0, (.sl (List.map c_Rect l))), (3, (.row (.top 500000) 4)), (4, (.row (.top 500001) 3)), (5, (vI s1017.1)), (6, (vI s1438.1)), (22, (vB (decide (s1438.1 < (l.length : Int)))))], [(500000, .row 4 [] (List.map cB s1438.2.1)), (500001, .row 3 [] (List.map cI s1438.2.2))]⟩ (by kernel_rfl) ?_
    refine sem_cond (decide (s1438.1 < (l.length : Int))) (by kernel_rfl) (by kernel_rfl) (fun hb => ?_) (fun hb => ?_)
    ·replace h := iteT hb h
     refine z4 ⟨[(0, (.sl (List.map c_Rect l))), (3, (.row (.top 500000) 4)), (4, (.row (.top 500001) 3)), (5, (vI s1017.1)), (6, (vI s1438.1))], [(500000, .row 4 [] (List.map cB s1438.2.1)), (500001, .row 3 [] (List.map cI s1438.2.2))]⟩ (by kernel_rfl) ?_
     refine sem_seqJ (fun (j1500 : (List Bool) × (List Int)) => ⟨[(0, (.sl (List.map c_Rect l))), (3, (.row (.top 500000) 4)), (4, (.row (.top 500001) 3)), (5, (vI s1017.1)), (6, (vI s1438.1))], [(500000, .row 4 [] (List.map cB j1500.1)), (500001, .row 3 [] (List.map cI j1500.2))]⟩) (sheetmetalref06_connected_k1 s1438) r (by kernel_rfl) (fun j1500 h => ?_) ?_
     ·refine sem_region (by kernel_rfl) ?_
      refine z6 3 (by kernel_rfl) (fun τ hτ => ?_)
      obtain rfl := Option.some.inj h
      exact lk_nextS hτ (here (by kernel_rfl))
     refine sem_block (by kernel_rfl) ?_
     refine sem_seq (by kernel_rfl) ?_
     obtain ⟨j1511, hj1511, h⟩ := bindS h
     refine sem_drawP ⟨[(0, (.sl (List.map c_Rect l))), (3, (.row (.top 500000) 4)), (4, (.row (.top 500001) 3)), (5, (vI s1017.1)), (6, (vI s1438.1)), (43, (vB j1511))], [(500000, .row 4 [] (List.map cB s1438.2.1)), (500001, .row 3 [] (List.map cI s1438.2.2))]⟩ [] [] [] [] [] 17 (by kernel_rfl) (by kernel_rfl) (by kernel_rfl) ?_ (fun τ hτ => ?_)
     ·replace h := hj1511
      refine evd_run 2 (by kernel_rfl) ?_
      obtain ⟨x1512, hx1512, h⟩ := bindS h
      refine evd_val (by kernel_rfl) (st_idxO (c := cB) (l := s1438.2.1) (i := s1438.1) (kd := .i64) (kk := (.top 500000)) (e := 4) (sz := 1) (by kernel_rfl) (by kernel_rfl) hx1512 rfl) (by kernel_rfl) (by kernel_rfl) ?_
      refine evd_val (by kernel_rfl) (st_ldO (c := cB) (l := s1438.2.1) (i := (Int.toNat s1438.1)) (v := (vB x1512)) (agg := false) (sz := 1) (kk := (.top 500000)) (e := 4) (off := 0) (J := []) (by kernel_rfl) (by kernel_rfl) (by kernel_rfl) ((idxS hx1512).2) (by kernel_rfl)) (by kernel_rfl) (by kernel_rfl) ?_
      refine evd_run 2 (by kernel_rfl) ?_
      refine evd_split x1512 (fun b0 => ⟨[(30, (vB (!b0))), (29, (vB (!b0))), (28, (vB b0)), (27, (.rptr (.top 500000) 4 (Int.toNat s1438.1) 0)), (26, (vI s1438.1)), (25, (.row (.top 500000) 4)), (0, (.sl (List.map c_Rect l))), (3, (.row (.top 500000) 4)), (4, (.row (.top 500001) 3)), (5, (vI s1017.1)), (6, (vI s1438.1))], [(500000, .row 4 [] (List.map cB s1438.2.1)), (500001, .row 3 [] (List.map cI s1438.2.2))]⟩) (by kernel_rfl) (fun hb => ?_) (fun hb => ?_)
      ·replace h := iteT hb h
       refine evd_run 11 (by kernel_rfl) ?_
       refine evd_end (by kernel_rfl) ?_
       refine evo_run 2 (by kernel_rfl) ?_
       refine evo_endS (by kernel_rfl) (fun τ hτ => ?_)
       obtain rfl := Option.some.inj h
       exact leafC hτ (here (by kernel_rfl))
      ·replace h := iteF hb h
       refine evd_run 3 (by kernel_rfl) ?_
       obtain ⟨x1513, hx1513, h⟩ := bindS h
       refine evd_val (by kernel_rfl) (st_idxO (c := cI) (l := s1438.2.2) (i := s1017.1) (kd := .i64) (kk := (.top 500001)) (e := 3) (sz := 1) (by kernel_rfl) (by kernel_rfl) hx1513 rfl) (by kernel_rfl) (by kernel_rfl) ?_
       refine evd_val (by kernel_rfl) (st_ldO (c := cI) (l := s1438.2.2) (i := (Int.toNat s1017.1)) (v := (vI x1513)) (agg := false) (sz := 1) (kk := (.top 500001)) (e := 3) (off := 0) (J := []) (by kernel_rfl) (by kernel_rfl) (by kernel_rfl) ((idxS hx1513).2) (by kernel_rfl)) (by kernel_rfl) (by kernel_rfl) ?_
       obtain ⟨x1514, hx1514, h⟩ := bindS h
       refine evd_val (by kernel_rfl) (st_idx (c := c_Rect) (l := l) (i := x1513) (kd := .i64) (sz := 4) (by kernel_rfl) hx1514 rfl) (by kernel_rfl) (by kernel_rfl) ?_
       refine evd_run 3 (by kernel_rfl) ?_
       obtain ⟨x1515, hx1515, h⟩ := bindS h
       refine evd_val (by kernel_rfl) (st_idx (c := c_Rect) (l := l) (i := s1438.1) (kd := .i64) (sz := 4) (by kernel_rfl) hx1515 rfl) (by kernel_rfl) (by kernel_rfl) ?_
       refine evd_run 1 (by kernel_rfl) ?_
       refine evd_end (by kernel_rfl) ?_
       obtain ⟨r1516, hr1516, h⟩ := bindS h
       refine evo_callP [] (by kernel_rfl) (W.sheetmetalref06_touching_ok hr1516) (by kernel_rfl) (.inl rfl) (by kernel_rfl) ?_
       refine evo_run 1 (by kernel_rfl) ?_
       refine evo_endS (by kernel_rfl) (fun τ hτ => ?_)
       obtain rfl := Option.some.inj h
       exact leafC hτ (here (by kernel_rfl))
     refine th_normalS hτ ⟨[(0, (.sl (List.map c_Rect l))), (3, (.row (.top 500000) 4)), (4, (.row (.top 500001) 3)), (5, (vI s1017.1)), (6, (vI s1438.1)), (43, (vB j1511))], [(500000, .row 4 [] (List.map cB s1438.2.1)), (500001, .row 3 [] (List.map cI s1438.2.2))]⟩ (here (by kernel_rfl)) ?_
     refine sem_cond j1511 (by kernel_rfl) (by kernel_rfl) (fun hb => ?_) (fun hb => ?_)
     ·replace h := iteT hb h
      refine z7 (by kernel_rfl) ?_
      refine evs_run 2 (by kernel_rfl) ?_
      obtain ⟨x1518, hx1518, h⟩ := bindS h
      refine evs_op (st_idxO (c := cB) (l := s1438.2.1) (i := s1438.1) (kd := .i64) (kk := (.top 500000)) (e := 4) (sz := 1) (by kernel_rfl) (by kernel_rfl) hx1518 rfl) ?_
      refine evs_op (st_stO (c := cB) (l := s1438.2.1) (i := (Int.toNat s1438.1)) (x := x1518) (x' := true) (v := (vB true)) (agg := false) (sz := 1) (kk := (.top 500000)) (e := 4) (off := 0) (J := []) (o := .row 4 [] (List.map cB (List.set s1438.2.1 (Int.toNat s1438.1) true))) (by kernel_rfl) (by kernel_rfl) (by kernel_rfl) ((idxS hx1518).2) (by kernel_rfl) (by kernel_rfl) (by kernel_rfl)) ?_
      refine evs_endS (by kernel_rfl) (fun τ hτ => ?_)
      refine th_normalS hτ ⟨[(0, (.sl (List.map c_Rect l))), (3, (.row (.top 500000) 4)), (4, (.row (.top 500001) 3)), (5, (vI s1017.1)), (6, (vI s1438.1))], [(500000, .row 4 [] (List.map cB (List.set s1438.2.1 (Int.toNat s1438.1) true))), (500001, .row 3 [] (List.map cI s1438.2.2))]⟩ (here (by kernel_rfl)) ?_
      refine sem_region (by kernel_rfl) ?_
      refine evs_run 3 (by kernel_rfl) ?_
      obtain ⟨l1520, hl1520, h⟩ := bindS h
      refine evs_op (st_app (c := cI) (l := s1438.2.2) (l2 := [s1438.1]) (x := (.sl (List.map cI [s1438.1]))) (g := 500001) (e := 3) (sz := 1) (d := 50) (by kernel_rfl) (by kernel_rfl) (by kernel_rfl) (by kernel_rfl) (fun _ => rfl) rfl hl1520) ?_
      refine z6 1 (by kernel_rfl) (fun τ hτ => ?_)
      refine bl_normal ?_
      exact jk_normal ((List.set s1438.2.1 (Int.toNat s1438.1) true), l1520) h hτ (here (by kernel_rfl))
     ·replace h := iteF hb h
      refine sem_skipS (by kernel_rfl) (fun τ hτ => ?_)
      refine bl_normal ?_
      exact jk_normal (s1438.2.1, s1438.2.2) h hτ (here (by kernel_rfl))
    ·replace h := iteF hb h
     refine sem_exitS 2 (by kernel_rfl) rfl (fun τ hτ => ?_)
     refine th_exit ?_
     obtain rfl := Option.some.inj h
     exact lk_outS hτ rfl (here (by kernel_rfl))
   ·intro x
    rfl
   ·intro τ hτ
    refine bl_hit (by kernel_rfl) ?_
    refine bl_normal ?_
    refine th_normalS hτ ⟨[(0, (.sl (List.map c_Rect l))), (3, (.row (.top 500000) 4)), (4, (.row (.top 500001) 3)), (5, (vI s1017.1))], [(500000, .row 4 [] (List.map cB x1521.1)), (500001, .row 3 [] (List.map cI x1521.2))]⟩ (here (by kernel_rfl)) ?_
    refine sem_region (by kernel_rfl) ?_
    refine z6 3 (by kernel_rfl) (fun τ hτ => ?_)
    obtain rfl := Option.some.inj h
    exact lk_nextS hτ (here (by kernel_rfl))
  ·replace h := iteF hb h
   refine sem_exitS 0 (by kernel_rfl) rfl (fun τ hτ => ?_)
   refine th_exit ?_
   obtain rfl := Option.some.inj h
   exact lk_outS hτ rfl (subR_prep [] [(500001, 500000)] (by kernel_rfl) rfl rfl (by kernel_rfl))
 ·intro x
  rfl
 ·intro τ hτ
  refine bl_hit (by kernel_rfl) ?_
  refine th_normalS hτ ⟨[(0, (.sl (List.map c_Rect l))), (4, (.row (.top 500000) 3))], [(500000, .row 3 [] (List.map cI x1522))]⟩ (here (by kernel_rfl)) ?_
  refine z7 (by kernel_rfl) ?_
  refine evs_run 1 (by kernel_rfl) ?_
  refine evs_op (st_len (c := cI) (l := x1522) (x := (.row (.top 500000) 3)) (by kernel_rfl) (by kernel_rfl)) ?_
  refine evs_run 1 (by kernel_rfl) ?_
  refine evs_op (st_len (c := c_Rect) (l := l) (x := (.sl (List.map c_Rect l))) (by kernel_rfl) (by kernel_rfl)) ?_
  refine z1 2 ⟨[(2, (vB ((x1522.length : Int) == (l.length : Int))))], []⟩ (by kernel_rfl) ?_
  refine sem_retS (by kernel_rfl) (fun τ hτ => ?_)
  obtain rfl := Option.some.inj h
  exact rk_ret hτ [(2, (vB ((x1522.length : Int) == (l.length : Int))))] (here (by kernel_rfl)) (by kernel_rfl)
theorem W.sheetmetalref06_deep_ok {r0 : Rect} {l : (List Rect)} {r : Bool} (h : sheetmetalref06_deep r0 l = some r) : PC G.P 64 [(.agg (c_Rect r0)), (.sl (List.map c_Rect l))] [] (vB r) [] := by
 refine pc_of G (fn := Tryz.f64) Tryz.func64 (by kernel_rfl) (by kernel_rfl) (by kernel_rfl) (by kernel_rfl) (by kernel_rfl) ?_
 refine sem_set ⟨[(0, (.agg (c_Rect r0))), (1, (.sl (List.map c_Rect l)))], []⟩ (by kernel_rfl) ?_
 refine z3 2 ⟨[(1, (.sl (List.map c_Rect l))), (2, (.ptr 2 0))], [(2, .box (c_Rect r0))]⟩ (by kernel_rfl) ?_
 refine sem_seq (by kernel_rfl) ?_
 refine z3 1 ⟨[(1, (.sl (List.map c_Rect l))), (2, (.ptr 2 0)), (5, (vI 0))], [(2, .box (c_Rect r0))]⟩ (by kernel_rfl) ?_
 refine sem_block (by kernel_rfl) ?_
 obtain ⟨x236, hx236, h⟩ := bindS h
 refine sem_loopS (fun (s159 : Int) => ⟨[(1, (.sl (List.map c_Rect l))), (2, (.ptr 500000 0)), (5, (vI s159))], [(500000, .box (c_Rect r0))]⟩) (fun (x236 : Unit ⊕ Unit) => match x236 with | .inl j237 => (.ret, ⟨[(4, (vB true))], []⟩) | .inr j238 => (.exit 0, ⟨[], []⟩)) (sheetmetalref06_deep_l1 r0 l) 0 x236 (by kernel_rfl) (subR_prep [] [(2, 500000)] (by kernel_rfl) rfl rfl (by kernel_rfl)) hx236 ?_ ?_ ?_
 ·intro s159 r h
  refine sem_seq (by kernel_rfl) ?_
  refine z7 (by kernel_rfl) ?_
  refine evs_run 2 (by kernel_rfl) ?_
  refine evs_op (st_len (c := c_Rect) (l := l) (x := (.sl (List.map c_Rect l))) (by kernel_rfl) (by kernel_rfl)) ?_
  refine z1 1 ⟨[(1, (.sl (List.map c_Rect l))), (2, (.ptr 500000 0)), (5, (vI s159)), (9, (vB (decide (s159 < (l.length : Int)))))], [(500000, .box (c_Rect r0))]⟩ (by kernel_rfl) ?_
  refine sem_cond (decide (s159 < (l.length : Int))) (by kernel_rfl) (by kernel_rfl) (fun hb => ?_) (fun hb => ?_)
  ·replace h := iteT hb h
   refine z4 ⟨[(1, (.sl (List.map c_Rect l))), (2, (.ptr 500000 0)), (5, (vI s159))], [(500000, .box (c_Rect r0))]⟩ (by kernel_rfl) ?_
   refine sem_seq (by kernel_rfl) ?_
   refine sem_block (by kernel_rfl) ?_
   refine sem_seq (by kernel_rfl) ?_
   obtain ⟨j229, hj229, h⟩ := bindS h
   refine sem_drawP ⟨[(1, (.sl (List.map c_Rect l))), (2, (.ptr 500000 0)), (5, (vI s159)), (67, (vB j229))], [(500000, .box (c_Rect r0))]⟩ [] [] [] [] [] 54 (by kernel_rfl) (by kernel_rfl) (by kernel_rfl) ?_ (fun τ hτ => ?_)
   ·replace h := hj229
    refine evd_run 4 (by kernel_rfl) ?_
    obtain ⟨x230, hx230, h⟩ := bindS h
    refine evd_val (by kernel_rfl) (st_idx (c := c_Rect) (l := l) (i := s159) (kd := .i64) (sz := 4) (by kernel_rfl) hx230 rfl) (by kernel_rfl) (by kernel_rfl) ?_
    refine evd_run 4 (by kernel_rfl) ?_
    refine evd_split (decide (r0.X > x230.X)) (fun b0 => ⟨[(20, (vB b0)), (19, (vB b0)), (18, (vI x230.X)), (17, (.vptr (c_Rect x230) 0)), (16, (.vptr (c_Rect x230) 0)), (15, (vI s159)), (14, (.sl (List.map c_Rect l))), (13, (vI r0.X)), (12, (.ptr 500000 0)), (1, (.sl (List.map c_Rect l))), (2, (.ptr 500000 0)), (5, (vI s159))], [(500000, .box (c_Rect r0))]⟩) (by kernel_rfl) (fun hb => ?_) (fun hb => ?_)
    ·replace h := iteT hb h
     refine evd_run 4 (by kernel_rfl) ?_
     obtain ⟨x231, hx231, h⟩ := bindS h
     refine evd_val (by kernel_rfl) (st_idx (c := c_Rect) (l := l) (i := s159) (kd := .i64) (sz := 4) (by kernel_rfl) hx231 rfl) (by kernel_rfl) (by kernel_rfl) ?_
     refine evd_run 5 (by kernel_rfl) ?_
     refine evd_split (decide (r0.Y > x231.Y)) (fun b0 => ⟨[(30, (vB b0)), (29, (vB b0)), (28, (vB b0)), (27, (vI x231.Y)), (26, (.vptr (c_Rect x231) 1)), (25, (.vptr (c_Rect x231) 0)), (24, (vI s159)), (23, (.sl (List.map c_Rect l))), (22, (vI r0.Y)), (21, (.ptr 500000 1)), (20, (vB true)), (19, (vB true)), (18, (vI x230.X)), (17, (.vptr (c_Rect x230) 0)), (16, (.vptr (c_Rect x230) 0)), (15, (vI s159)), (14, (.sl (List.map c_Rect l))), (13, (vI r0.X)), (12, (.ptr 500000 0)), (1, (.sl (List.map c_Rect l))), (2, (.ptr 500000 0)), (5, (vI s159))], [(500000, .box (c_Rect r0))]⟩) (by kernel_rfl) (fun hb => ?_) (fun hb => ?_)
     ·replace h := iteT hb h
      refine evd_run 7 (by kernel_rfl) ?_
      obtain ⟨x232, hx232, h⟩ := bindS h
      refine evd_val (by kernel_rfl) (st_idx (c := c_Rect) (l := l) (i := s159) (kd := .i64) (sz := 4) (by kernel_rfl) hx232 rfl) (by kernel_rfl) (by kernel_rfl) ?_
      refine evd_run 4 (by kernel_rfl) ?_
      obtain ⟨x233, hx233, h⟩ := bindS h
      refine evd_val (by kernel_rfl) (st_idx (c := c_Rect) (l := l) (i := s159) (kd := .i64) (sz := 4) (by kernel_rfl) hx233 rfl) (by kernel_rfl) (by kernel_rfl) ?_
      refine evd_run 6 (by kernel_rfl) ?_
      refine evd_split (decide ((iadd r0.X r0.W) < (iadd x232.X x233.W))) (fun b0 => ⟨[(49, (vB b0)), (48, (vB b0)), (47, (vB b0)), (46, (vI (iadd x232.X x233.W))), (45, (vI x233.W)), (44, (.vptr (c_Rect x233) 2)), (43, (.vptr (c_Rect x233) 0)), (42, (vI s159)), (41, (.sl (List.map c_Rect l))), (40, (vI x232.X)), (39, (.vptr (c_Rect x232) 0)), (38, (.vptr (c_Rect x232) 0)), (37, (vI s159)), (36, (.sl (List.map c_Rect l))), (35, (vI (iadd r0.X r0.W))), (34, (vI r0.W)), (33, (.ptr 500000 2)), (32, (vI r0.X)), (31, (.ptr 500000 0)), (30, (vB true)), (29, (vB true)), (28, (vB true)), (27, (vI x231.Y)), (26, (.vptr (c_Rect x231) 1)), (25, (.vptr (c_Rect x231) 0)), (24, (vI s159)), (23, (.sl (List.map c_Rect l))), (22, (vI r0.Y)), (21, (.ptr 500000 1)), (20, (vB true)), (19, (vB true)), (18, (vI x230.X)), (17, (.vptr (c_Rect x230) 0)), (16, (.vptr (c_Rect x230) 0)), (15, (vI s159)), (14, (.sl (List.map c_Rect l))), (13, (vI r0.X)), (12, (.ptr 500000 0)), (1, (.sl (List.map c_Rect l))), (2, (.ptr 500000 0)), (5, (vI s159))], [(500000, .box (c_Rect r0))]⟩) (by kernel_rfl) (fun hb => ?_) (fun hb => ?_)
      ·replace h := iteT hb h
       refine evd_run 7 (by kernel_rfl) ?_
       obtain ⟨x234, hx234, h⟩ := bindS h
       refine evd_val (by kernel_rfl) (st_idx (c := c_Rect) (l := l) (i := s159) (kd := .i64) (sz := 4) (by kernel_rfl) hx234 rfl) (by kernel_rfl) (by kernel_rfl) ?_
       refine evd_run 4 (by kernel_rfl) ?_
       obtain ⟨x235, hx235, h⟩ := bindS h
       refine evd_val (by kernel_rfl) (st_idx (c := c_Rect) (l := l) (i := s159) (kd := .i64) (sz := 4) (by kernel_rfl) hx235 rfl) (by kernel_rfl) (by kernel_rfl) ?_
       refine evd_run 3 (by kernel_rfl) ?_
       refine evd_end (by kernel_rfl) ?_
       refine evo_run 2 (by kernel_rfl) ?_
       refine evo_endS (by kernel_rfl) (fun τ hτ => ?_)
       obtain rfl := Option.some.inj h
       exact leafC hτ (here (by kernel_rfl))
      ·replace h := iteF hb h
       refine evd_run 16 (by kernel_rfl) ?_
       refine evd_end (by kernel_rfl) ?_
       refine evo_run 2 (by kernel_rfl) ?_
       refine evo_endS (by kernel_rfl) (fun τ hτ => ?_)
       obtain rfl := Option.some.inj h
       exact leafC hτ (here (by kernel_rfl))
     ·replace h := iteF hb h
      refine evd_run 35 (by kernel_rfl) ?_
      refine evd_end (by kernel_rfl) ?_
      refine evo_run 2 (by kernel_rfl) ?_
      refine evo_endS (by kernel_rfl) (fun τ hτ => ?_)
      obtain rfl := Option.some.inj h
      exact leafC hτ (here (by kernel_rfl))
    ·replace h := iteF hb h
     refine evd_run 45 (by kernel_rfl) ?_
     refine evd_end (by kernel_rfl) ?_
     refine evo_run 2 (by kernel_rfl) ?_
     refine evo_endS (by kernel_rfl) (fun τ hτ => ?_)
     obtain rfl := Option.some.inj h
     exact leafC hτ (here (by kernel_rfl))
   refine th_normalS hτ ⟨[(1, (.sl (List.map c_Rect l))), (2, (.ptr 500000 0)), (5, (vI s159)), (67, (vB j229))], [(500000, .box (c_Rect r0))]⟩ (here (by kernel_rfl)) ?_
   refine sem_cond j229 (by kernel_rfl) (by kernel_rfl) (fun hb => ?_) (fun hb => ?_)
   ·replace h := iteT hb h
    refine z8 1 ⟨[(4, (vB true))], []⟩ (by kernel_rfl) (fun τ hτ => ?_)
    refine bl_ret ?_
    refine th_ret ?_
    obtain rfl := Option.some.inj h
    exact lk_outS hτ rfl (here (by kernel_rfl))
   ·replace h := iteF hb h
    refine sem_skipS (by kernel_rfl) (fun τ hτ => ?_)
    refine bl_normal ?_
    refine th_normalS hτ ⟨[(1, (.sl (List.map c_Rect l))), (2, (.ptr 500000 0)), (5, (vI s159))], [(500000, .box (c_Rect r0))]⟩ (here (by kernel_rfl)) ?_
    refine sem_region (by kernel_rfl) ?_
    refine z6 3 (by kernel_rfl) (fun τ hτ => ?_)
    obtain rfl := Option.some.inj h
    exact lk_nextS hτ (here (by kernel_rfl))
  ·replace h := iteF hb h
   refine sem_exitS 0 (by kernel_rfl) rfl (fun τ hτ => ?_)
   refine th_exit ?_
   obtain rfl := Option.some.inj h
   exact lk_outS hτ rfl (here (by kernel_rfl))
 ·intro x
  rcases x with _ | _ <;> rfl
 ·intro τ hτ
  rcases x236 with j237 | j238
  ·refine bl_ret ?_
   refine th_ret ?_
   obtain rfl := Option.some.inj h
   exact rk_ret hτ [(4, (vB true))] (here (by kernel_rfl)) (by kernel_rfl)
  ·refine bl_hit (by kernel_rfl) ?_
   refine th_normalS hτ ⟨[], []⟩ (here (by kernel_rfl)) ?_
   refine z8 1 ⟨[(4, (vB false))], []⟩ (by kernel_rfl) (fun τ hτ => ?_)
   obtain rfl := Option.some.inj h
   exact rk_ret hτ [(4, (vB false))] (here (by kernel_rfl)) (by kernel_rfl)
end Go.Proofs.YtonmponhpfpokaaGreatR
