/- Each Go function does what its model says; written by a program out of the translation. -/
import Derived.Test.YtiodkdpfkchkjaaWN
import Derived.Test.YtiodkdpfkchkjaaGeMN
set_option linter.unusedVariables false
set_option linter.unusedSimpArgs false
set_option linter.unusedSectionVars false
namespace Go.Proofs.Ytiodkdpfkchkjaa
open Go Go.VI Go.SM Go.Proofs
set_option maxRecDepth 100000
set_option maxHeartbeats 4000000
theorem W.slices_partialInsertionSortCmpFunc_api_Point__geom_comparePoints_ok {a : Int} {b : Int} {h0 : (List Point)} {r : Bool × (List Point)} (h : slices_partialInsertionSortCmpFunc_api_Point__geom_comparePoints a b h0 = some r) : PC G.P 131 [(.row (.top 1000000) 36), (vI a), (vI b), (.fn 106 [])] [(1000000, .row 36 [] (List.map c_Point h0))] (vB r.1) [(1000000, .row 36 [] (List.map c_Point r.2))] := by
 refine pc_of G (fn := Try.f131) Try.func131 (by kernel_rfl) (by kernel_rfl) (by kernel_rfl) (by kernel_rfl) (by kernel_rfl) ?_
 refine sem_set ⟨[(0, (.row (.top 1000000) 36)), (1, (vI a)), (2, (vI b)), (3, (.fn 106 []))], [(1000000, .row 36 [] (List.map c_Point h0))]⟩ (by kernel_rfl) ?_
 refine z3 1 ⟨[(0, (.row (.top 1000000) 36)), (1, (vI a)), (2, (vI b)), (3, (.fn 106 []))], [(1000000, .row 36 [] (List.map c_Point h0))]⟩ (by kernel_rfl) ?_
 refine z3 3 ⟨[(0, (.row (.top 1000000) 36)), (1, (vI a)), (2, (vI b)), (3, (.fn 106 [])), (9, (vI (iadd a 1)))], [(1000000, .row 36 [] (List.map c_Point h0))]⟩ (by kernel_rfl) ?_
 refine sem_seq (by kernel_rfl) ?_
 refine z3 1 ⟨[(0, (.row (.top 1000000) 36)), (1, (vI a)), (2, (vI b)), (3, (.fn 106 [])), (9, (vI (iadd a 1))), (10, (vI 0))], [(1000000, .row 36 [] (List.map c_Point h0))]⟩ (by kernel_rfl) ?_
 refine sem_block (by kernel_rfl) ?_
 obtain ⟨x8270, hx8270, h⟩ := bindS h
 refine sem_loopS (fun (s5515 : Int × Int × (List Point)) => ⟨[(0, (.row (.top 1000000) 36)), (1, (vI a)), (2, (vI b)), (3, (.fn 106 [])), (9, (vI s5515.1)), (10, (vI s5515.2.1))], [(1000000, .row 36 [] (List.map c_Point s5515.2.2))]⟩) (fun (x8270 : Bool × (List Point) ⊕ (List Point)) => match x8270 with | .inl j8271 => (.ret, ⟨[(8, (vB j8271.1))], [(1000000, .row 36 [] (List.map c_Point j8271.2))]⟩) | .inr j8272 => (.exit 0, ⟨[], [(1000000, .row 36 [] (List.map c_Point j8272))]⟩)) (slices_partialInsertionSortCmpFunc_api_Point__geom_comparePoints_l6 a b) ((iadd a 1), 0, h0) x8270 (by kernel_rfl) (here (by kernel_rfl)) hx8270 ?_ ?_ ?_
 ·intro s5515 r h
  refine sem_seq (by kernel_rfl) ?_
  refine z3 2 ⟨[(0, (.row (.top 1000000) 36)), (1, (vI a)), (2, (vI b)), (3, (.fn 106 [])), (9, (vI s5515.1)), (10, (vI s5515.2.1)), (16, (vB (decide (s5515.2.1 < 5))))], [(1000000, .row 36 [] (List.map c_Point s5515.2.2))]⟩ (by kernel_rfl) ?_
  refine sem_cond (decide (s5515.2.1 < 5)) (by kernel_rfl) (by kernel_rfl) (fun hb => ?_) (fun hb => ?_)
  ·replace h := iteT hb h
   refine z4 ⟨[(0, (.row (.top 1000000) 36)), (1, (vI a)), (2, (vI b)), (3, (.fn 106 [])), (9, (vI s5515.1)), (10, (vI s5515.2.1))], [(1000000, .row 36 [] (List.map c_Point s5515.2.2))]⟩ (by kernel_rfl) ?_
   refine sem_seqJ (fun (j7581 : Int × (List Point)) => ⟨[(0, (.row (.top 1000000) 36)), (1, (vI a)), (2, (vI b)), (3, (.fn 106 [])), (9, (vI j7581.1)), (10, (vI s5515.2.1))], [(1000000, .row 36 [] (List.map c_Point j7581.2))]⟩) (slices_partialInsertionSortCmpFunc_api_Point__geom_comparePoints_k1 s5515) r (by kernel_rfl) (fun j7581 h => ?_) ?_
   ·refine sem_region (by kernel_rfl) ?_
    refine z6 3 (by kernel_rfl) (fun τ hτ => ?_)
    obtain rfl := Option.some.inj h
    exact lk_nextS hτ (here (by kernel_rfl))
   refine sem_block (by kernel_rfl) ?_
   refine sem_seq (by kernel_rfl) ?_
   refine sem_block (by kernel_rfl) ?_
   obtain ⟨x7707, hx7707, h⟩ := bindS h
   refine sem_loopS (fun (s7666 : Int) => ⟨[(0, (.row (.top 1000000) 36)), (1, (vI a)), (2, (vI b)), (3, (.fn 106 [])), (9, (vI s7666)), (10, (vI s5515.2.1))], [(1000000, .row 36 [] (List.map c_Point s5515.2.2))]⟩) (fun (x7707 : Int) => (.exit 2, ⟨[(0, (.row (.top 1000000) 36)), (1, (vI a)), (2, (vI b)), (3, (.fn 106 [])), (9, (vI x7707)), (10, (vI s5515.2.1))], [(1000000, .row 36 [] (List.map c_Point s5515.2.2))]⟩)) (slices_partialInsertionSortCmpFunc_api_Point__geom_comparePoints_l2 b s5515) s5515.1 x7707 (by kernel_rfl) (here (by kernel_rfl)) hx7707 ?_ ?_ ?_
   ·intro s7666 r h
    refine sem_seq (by kernel_rfl) ?_
    refine sem_seq (by kernel_rfl) ?_
    obtain ⟨j7703, hj7703, h⟩ := bindS h
    refine sem_drawP ⟨[(0, (.row (.top 1000000) 36)), (1, (vI a)), (2, (vI b)), (3, (.fn 106 [])), (9, (vI s7666)), (10, (vI s5515.2.1)), (36, (vB j7703))], [(1000000, .row 36 [] (List.map c_Point s5515.2.2))]⟩ [] [] [] [] [] 14 (by kernel_rfl) (by kernel_rfl) (by kernel_rfl) ?_ (fun τ hτ => ?_)
    ·replace h := hj7703
     refine evd_run 4 (by kernel_rfl) ?_
     refine evd_split (decide (s7666 < b)) (fun b0 => ⟨[(22, (vB b0)), (21, (vB b0)), (20, (vI b)), (19, (vI s7666)), (0, (.row (.top 1000000) 36)), (1, (vI a)), (2, (vI b)), (3, (.fn 106 [])), (9, (vI s7666)), (10, (vI s5515.2.1))], [(1000000, .row 36 [] (List.map c_Point s5515.2.2))]⟩) (by kernel_rfl) (fun hb => ?_) (fun hb => ?_)
     ·replace h := iteT hb h
      refine evd_run 3 (by kernel_rfl) ?_
      obtain ⟨x7704, hx7704, h⟩ := bindS h
      refine evd_val (by kernel_rfl) (st_idxO (c := c_Point) (l := s5515.2.2) (i := s7666) (kd := .i64) (kk := (.top 1000000)) (e := 36) (sz := 4) (by kernel_rfl) (by kernel_rfl) hx7704 rfl) (by kernel_rfl) (by kernel_rfl) ?_
      refine evd_val (by kernel_rfl) (st_ldO (c := c_Point) (l := s5515.2.2) (i := (Int.toNat s7666)) (v := (.agg [(vI x7704.X.A), (vI x7704.X.B), (vI x7704.Y.A), (vI x7704.Y.B)])) (agg := true) (sz := 4) (kk := (.top 1000000)) (e := 36) (off := 0) (J := []) (by kernel_rfl) (by kernel_rfl) (by kernel_rfl) ((idxS hx7704).2) (by kernel_rfl)) (by kernel_rfl) (by kernel_rfl) ?_
      refine evd_run 3 (by kernel_rfl) ?_
      obtain ⟨x7705, hx7705, h⟩ := bindS h
      refine evd_val (by kernel_rfl) (st_idxO (c := c_Point) (l := s5515.2.2) (i := (isub s7666 1)) (kd := .i64) (kk := (.top 1000000)) (e := 36) (sz := 4) (by kernel_rfl) (by kernel_rfl) hx7705 rfl) (by kernel_rfl) (by kernel_rfl) ?_
      refine evd_val (by kernel_rfl) (st_ldO (c := c_Point) (l := s5515.2.2) (i := (Int.toNat (isub s7666 1))) (v := (.agg [(vI x7705.X.A), (vI x7705.X.B), (vI x7705.Y.A), (vI x7705.Y.B)])) (agg := true) (sz := 4) (kk := (.top 1000000)) (e := 36) (off := 0) (J := []) (by kernel_rfl) (by kernel_rfl) (by kernel_rfl) ((idxS hx7705).2) (by kernel_rfl)) (by kernel_rfl) (by kernel_rfl) ?_
      refine evd_end (by kernel_rfl) ?_
      obtain ⟨r7706, hr7706, h⟩ := bindS h
      refine evo_callP [] (by kernel_rfl) (W.geom_comparePoints_ok hr7706) (by kernel_rfl) (.inl rfl) (by kernel_rfl) ?_
      refine evo_run 3 (by kernel_rfl) ?_
      refine evo_endS (by kernel_rfl) (fun τ hτ => ?_)
      obtain rfl := Option.some.inj h
      exact leafC hτ (here (by kernel_rfl))
     ·replace h := iteF hb h
      refine evd_run 10 (by kernel_rfl) ?_
      refine evd_end (by kernel_rfl) ?_
      refine evo_run 4 (by kernel_rfl) ?_
      refine evo_endS (by kernel_rfl) (fun τ hτ => ?_)
      obtain rfl := Option.some.inj h
      exact leafC hτ (here (by kernel_rfl))
    refine th_normalS hτ ⟨[(0, (.row (.top 1000000) 36)), (1, (vI a)), (2, (vI b)), (3, (.fn 106 [])), (9, (vI s7666)), (10, (vI s5515.2.1)), (36, (vB j7703))], [(1000000, .row 36 [] (List.map c_Point s5515.2.2))]⟩ (here (by kernel_rfl)) ?_
    refine sem_cond j7703 (by kernel_rfl) (by kernel_rfl) (fun hb => ?_) (fun hb => ?_)
    ·replace h := iteT hb h
     refine z4 ⟨[(0, (.row (.top 1000000) 36)), (1, (vI a)), (2, (vI b)), (3, (.fn 106 [])), (9, (vI s7666)), (10, (vI s5515.2.1))], [(1000000, .row 36 [] (List.map c_Point s5515.2.2))]⟩ (by kernel_rfl) ?_
     refine sem_block (by kernel_rfl) ?_
     refine sem_region (by kernel_rfl) ?_
     refine z6 3 (by kernel_rfl) (fun τ hτ => ?_)
     refine bl_normal ?_
     obtain rfl := Option.some.inj h
     exact lk_nextS hτ (here (by kernel_rfl))
    ·replace h := iteF hb h
     refine sem_exitS 2 (by kernel_rfl) rfl (fun τ hτ => ?_)
     refine th_exit ?_
     obtain rfl := Option.some.inj h
     exact lk_outS hτ rfl (here (by kernel_rfl))
   ·intro x
    rfl
   ·intro τ hτ
    refine bl_hit (by kernel_rfl) ?_
    refine th_normalS hτ ⟨[(0, (.row (.top 1000000) 36)), (1, (vI a)), (2, (vI b)), (3, (.fn 106 [])), (9, (vI x7707)), (10, (vI s5515.2.1))], [(1000000, .row 36 [] (List.map c_Point s5515.2.2))]⟩ (here (by kernel_rfl)) ?_
    refine sem_seq (by kernel_rfl) ?_
    refine z3 3 ⟨[(0, (.row (.top 1000000) 36)), (1, (vI a)), (2, (vI b)), (3, (.fn 106 [])), (9, (vI x7707)), (10, (vI s5515.2.1)), (41, (vB (x7707 == b)))], [(1000000, .row 36 [] (List.map c_Point s5515.2.2))]⟩ (by kernel_rfl) ?_
    refine sem_cond (x7707 == b) (by kernel_rfl) (by kernel_rfl) (fun hb => ?_) (fun hb => ?_)
    ·replace h := iteT hb h
     refine z8 1 ⟨[(8, (vB true))], [(1000000, .row 36 [] (List.map c_Point s5515.2.2))]⟩ (by kernel_rfl) (fun τ hτ => ?_)
     refine th_ret ?_
     refine bl_ret ?_
     refine jk_ret ?_
     obtain rfl := Option.some.inj h
     exact lk_outS hτ rfl (here (by kernel_rfl))
    ·replace h := iteF hb h
     refine z4 ⟨[(0, (.row (.top 1000000) 36)), (1, (vI a)), (2, (vI b)), (3, (.fn 106 [])), (9, (vI x7707)), (10, (vI s5515.2.1))], [(1000000, .row 36 [] (List.map c_Point s5515.2.2))]⟩ (by kernel_rfl) ?_
     refine sem_seq (by kernel_rfl) ?_
     refine z3 4 ⟨[(0, (.row (.top 1000000) 36)), (1, (vI a)), (2, (vI b)), (3, (.fn 106 [])), (9, (vI x7707)), (10, (vI s5515.2.1)), (45, (vB (decide ((isub b a) < 50))))], [(1000000, .row 36 [] (List.map c_Point s5515.2.2))]⟩ (by kernel_rfl) ?_
     refine sem_cond (decide ((isub b a) < 50)) (by kernel_rfl) (by kernel_rfl) (fun hb => ?_) (fun hb => ?_)
     ·replace h := iteT hb h
      refine z8 1 ⟨[(8, (vB false))], [(1000000, .row 36 [] (List.map c_Point s5515.2.2))]⟩ (by kernel_rfl) (fun τ hτ => ?_)
      refine th_ret ?_
      refine bl_ret ?_
      refine jk_ret ?_
      obtain rfl := Option.some.inj h
      exact lk_outS hτ rfl (here (by kernel_rfl))
     ·replace h := iteF hb h
      refine z4 ⟨[(0, (.row (.top 1000000) 36)), (1, (vI a)), (2, (vI b)), (3, (.fn 106 [])), (9, (vI x7707)), (10, (vI s5515.2.1))], [(1000000, .row 36 [] (List.map c_Point s5515.2.2))]⟩ (by kernel_rfl) ?_
      refine sem_seq (by kernel_rfl) ?_
      refine sem_drawN [(15, [1000000])] [] [] [(2, [1000000]), (3, [1000000]), (4, [1000000])] [] 16 (by kernel_rfl) (by kernel_rfl) (by kernel_rfl) ?_
      refine evd_run 8 (by kernel_rfl) ?_
      obtain ⟨x7716, hx7716, h⟩ := bindS h
      refine evd_val (by kernel_rfl) (st_idxO (c := c_Point) (l := s5515.2.2) (i := (isub x7707 1)) (kd := .i64) (kk := (.top 1000000)) (e := 36) (sz := 4) (by kernel_rfl) (by kernel_rfl) hx7716 rfl) (by kernel_rfl) (by kernel_rfl) ?_
      refine evd_val (by kernel_rfl) (st_ldO (c := c_Point) (l := s5515.2.2) (i := (Int.toNat (isub x7707 1))) (v := (.agg [(vI x7716.X.A), (vI x7716.X.B), (vI x7716.Y.A), (vI x7716.Y.B)])) (agg := true) (sz := 4) (kk := (.top 1000000)) (e := 36) (off := 0) (J := []) (by kernel_rfl) (by kernel_rfl) (by kernel_rfl) ((idxS hx7716).2) (by kernel_rfl)) (by kernel_rfl) (by kernel_rfl) ?_
      refine evd_run 2 (by kernel_rfl) ?_
      obtain ⟨x7717, hx7717, h⟩ := bindS h
      refine evd_val (by kernel_rfl) (st_idxO (c := c_Point) (l := s5515.2.2) (i := x7707) (kd := .i64) (kk := (.top 1000000)) (e := 36) (sz := 4) (by kernel_rfl) (by kernel_rfl) hx7717 rfl) (by kernel_rfl) (by kernel_rfl) ?_
      refine evd_val (by kernel_rfl) (st_ldO (c := c_Point) (l := s5515.2.2) (i := (Int.toNat x7707)) (v := (.agg [(vI x7717.X.A), (vI x7717.X.B), (vI x7717.Y.A), (vI x7717.Y.B)])) (agg := true) (sz := 4) (kk := (.top 1000000)) (e := 36) (off := 0) (J := []) (by kernel_rfl) (by kernel_rfl) (by kernel_rfl) ((idxS hx7717).2) (by kernel_rfl)) (by kernel_rfl) (by kernel_rfl) ?_
      obtain ⟨x7718, hx7718, h⟩ := bindS h
      refine evd_val (by kernel_rfl) (st_idxO (c := c_Point) (l := s5515.2.2) (i := x7707) (kd := .i64) (kk := (.top 1000000)) (e := 36) (sz := 4) (by kernel_rfl) (by kernel_rfl) hx7718 rfl) (by kernel_rfl) (by kernel_rfl) ?_
      refine evd_set (by kernel_rfl) (st_stO (c := c_Point) (l := s5515.2.2) (i := (Int.toNat x7707)) (x := x7718) (x' := x7716) (v := (.agg [(vI x7716.X.A), (vI x7716.X.B), (vI x7716.Y.A), (vI x7716.Y.B)])) (agg := true) (sz := 4) (kk := (.top 1000000)) (e := 36) (off := 0) (J := []) (o := .row 36 [] (List.map c_Point (List.set s5515.2.2 (Int.toNat x7707) x7716))) (by kernel_rfl) (by kernel_rfl) (by kernel_rfl) ((idxS hx7718).2) (by kernel_rfl) (by kernel_rfl) (by kernel_rfl)) (by kernel_rfl) (by kernel_rfl) (by kernel_rfl) ?_
      refine evd_end (by kernel_rfl) ?_
      obtain ⟨x7719, hx7719, h⟩ := bindS h
      refine evo_op (st_idxO (c := c_Point) (l := (List.set s5515.2.2 (Int.toNat x7707) x7716)) (i := (isub x7707 1)) (kd := .i64) (kk := (.top 1000000)) (e := 36) (sz := 4) (by kernel_rfl) (by kernel_rfl) hx7719 rfl) ?_
      refine evo_op (st_stO (c := c_Point) (l := (List.set s5515.2.2 (Int.toNat x7707) x7716)) (i := (Int.toNat (isub x7707 1))) (x := x7719) (x' := x7717) (v := (.agg [(vI x7717.X.A), (vI x7717.X.B), (vI x7717.Y.A), (vI x7717.Y.B)])) (agg := true) (sz := 4) (kk := (.top 1000000)) (e := 36) (off := 0) (J := []) (o := .row 36 [] (List.map c_Point (List.set (List.set s5515.2.2 (Int.toNat x7707) x7716) (Int.toNat (isub x7707 1)) x7717))) (by kernel_rfl) (by kernel_rfl) (by kernel_rfl) ((idxS hx7719).2) (by kernel_rfl) (by kernel_rfl) (by kernel_rfl)) ?_
      refine evo_endS (by kernel_rfl) (fun τ hτ => ?_)
      refine th_normalS hτ ⟨[(0, (.row (.top 1000000) 36)), (1, (vI a)), (2, (vI b)), (3, (.fn 106 [])), (9, (vI x7707)), (10, (vI s5515.2.1))], [(1000000, .row 36 [] (List.map c_Point (List.set (List.set s5515.2.2 (Int.toNat x7707) x7716) (Int.toNat (isub x7707 1)) x7717)))]⟩ (here (by kernel_rfl)) ?_
      refine sem_seqJ (fun (j7903 : (List Point)) => ⟨[(0, (.row (.top 1000000) 36)), (1, (vI a)), (2, (vI b)), (3, (.fn 106 [])), (9, (vI x7707)), (10, (vI s5515.2.1))], [(1000000, .row 36 [] (List.map c_Point j7903))]⟩) (slices_partialInsertionSortCmpFunc_api_Point__geom_comparePoints_k4 b s5515 x7707) r (by kernel_rfl) (fun j7903 h => ?_) ?_
      ·refine z3 4 ⟨[(0, (.row (.top 1000000) 36)), (1, (vI a)), (2, (vI b)), (3, (.fn 106 [])), (9, (vI x7707)), (10, (vI s5515.2.1)), (104, (vB (decide ((isub b x7707) ≥ 2))))], [(1000000, .row 36 [] (List.map c_Point j7903))]⟩ (by kernel_rfl) ?_
       refine sem_cond (decide ((isub b x7707) ≥ 2)) (by kernel_rfl) (by kernel_rfl) (fun hb => ?_) (fun hb => ?_)
       ·replace h := iteT hb h
        refine z3 3 ⟨[(0, (.row (.top 1000000) 36)), (1, (vI a)), (2, (vI b)), (3, (.fn 106 [])), (9, (vI x7707)), (10, (vI s5515.2.1)), (12, (vI (iadd x7707 1)))], [(1000000, .row 36 [] (List.map c_Point j7903))]⟩ (by kernel_rfl) ?_
        refine sem_block (by kernel_rfl) ?_
        obtain ⟨x8086, hx8086, h⟩ := bindS h
        refine sem_loopS (fun (s7965 : Int × (List Point)) => ⟨[(0, (.row (.top 1000000) 36)), (1, (vI a)), (2, (vI b)), (3, (.fn 106 [])), (9, (vI x7707)), (10, (vI s5515.2.1)), (12, (vI s7965.1))], [(1000000, .row 36 [] (List.map c_Point s7965.2))]⟩) (fun (x8086 : (List Point)) => (.exit 6, ⟨[(0, (.row (.top 1000000) 36)), (1, (vI a)), (2, (vI b)), (3, (.fn 106 [])), (9, (vI x7707)), (10, (vI s5515.2.1))], [(1000000, .row 36 [] (List.map c_Point x8086))]⟩)) (slices_partialInsertionSortCmpFunc_api_Point__geom_comparePoints_l3 b) ((iadd x7707 1), j7903) x8086 (by kernel_rfl) (here (by kernel_rfl)) hx8086 ?_ ?_ ?_
        ·intro s7965 r h
         refine sem_seq (by kernel_rfl) ?_
         refine z3 3 ⟨[(0, (.row (.top 1000000) 36)), (1, (vI a)), (2, (vI b)), (3, (.fn 106 [])), (9, (vI x7707)), (10, (vI s5515.2.1)), (12, (vI s7965.1)), (109, (vB (decide (s7965.1 < b))))], [(1000000, .row 36 [] (List.map c_Point s7965.2))]⟩ (by kernel_rfl) ?_
         refine sem_cond (decide (s7965.1 < b)) (by kernel_rfl) (by kernel_rfl) (fun hb => ?_) (fun hb => ?_)
         ·replace h := iteT hb h
          refine z4 ⟨[(0, (.row (.top 1000000) 36)), (1, (vI a)), (2, (vI b)), (3, (.fn 106 [])), (9, (vI x7707)), (10, (vI s5515.2.1)), (12, (vI s7965.1))], [(1000000, .row 36 [] (List.map c_Point s7965.2))]⟩ (by kernel_rfl) ?_
          refine sem_seq (by kernel_rfl) ?_
          refine sem_block (by kernel_rfl) ?_
          refine sem_seq (by kernel_rfl) ?_
          refine sem_seq (by kernel_rfl) ?_
          refine sem_drawN [] [] [] [] [] 10 (by kernel_rfl) (by kernel_rfl) (by kernel_rfl) ?_
          refine evd_run 3 (by kernel_rfl) ?_
          obtain ⟨x8071, hx8071, h⟩ := bindS h
          refine evd_val (by kernel_rfl) (st_idxO (c := c_Point) (l := s7965.2) (i := s7965.1) (kd := .i64) (kk := (.top 1000000)) (e := 36) (sz := 4) (by kernel_rfl) (by kernel_rfl) hx8071 rfl) (by kernel_rfl) (by kernel_rfl) ?_
          refine evd_val (by kernel_rfl) (st_ldO (c := c_Point) (l := s7965.2) (i := (Int.toNat s7965.1)) (v := (.agg [(vI x8071.X.A), (vI x8071.X.B), (vI x8071.Y.A), (vI x8071.Y.B)])) (agg := true) (sz := 4) (kk := (.top 1000000)) (e := 36) (off := 0) (J := []) (by kernel_rfl) (by kernel_rfl) (by kernel_rfl) ((idxS hx8071).2) (by kernel_rfl)) (by kernel_rfl) (by kernel_rfl) ?_
          refine evd_run 3 (by kernel_rfl) ?_
          obtain ⟨x8072, hx8072, h⟩ := bindS h
          refine evd_val (by kernel_rfl) (st_idxO (c := c_Point) (l := s7965.2) (i := (isub s7965.1 1)) (kd := .i64) (kk := (.top 1000000)) (e := 36) (sz := 4) (by kernel_rfl) (by kernel_rfl) hx8072 rfl) (by kernel_rfl) (by kernel_rfl) ?_
          refine evd_val (by kernel_rfl) (st_ldO (c := c_Point) (l := s7965.2) (i := (Int.toNat (isub s7965.1 1))) (v := (.agg [(vI x8072.X.A), (vI x8072.X.B), (vI x8072.Y.A), (vI x8072.Y.B)])) (agg := true) (sz := 4) (kk := (.top 1000000)) (e := 36) (off := 0) (J := []) (by kernel_rfl) (by kernel_rfl) (by kernel_rfl) ((idxS hx8072).2) (by kernel_rfl)) (by kernel_rfl) (by kernel_rfl) ?_
          refine evd_end (by kernel_rfl) ?_
          obtain ⟨r8073, hr8073, h⟩ := bindS h
          refine evo_callP [] (by kernel_rfl) (W.geom_comparePoints_ok hr8073) (by kernel_rfl) (.inl rfl) (by kernel_rfl) ?_
          refine evo_run 2 (by kernel_rfl) ?_
          refine evo_endS (by kernel_rfl) (fun τ hτ => ?_)
          refine th_normalS hτ ⟨[(0, (.row (.top 1000000) 36)), (1, (vI a)), (2, (vI b)), (3, (.fn 106 [])), (9, (vI x7707)), (10, (vI s5515.2.1)), (12, (vI s7965.1)), (124, (vB (!(decide (r8073 < 0)))))], [(1000000, .row 36 [] (List.map c_Point s7965.2))]⟩ (here (by kernel_rfl)) ?_
          refine sem_cond (!(decide (r8073 < 0))) (by kernel_rfl) (by kernel_rfl) (fun hb => ?_) (fun hb => ?_)
          ·replace h := iteT hb h
           refine sem_exitS 6 (by kernel_rfl) rfl (fun τ hτ => ?_)
           refine th_exit ?_
           refine bl_miss (by kernel_rfl) ?_
           refine th_exit ?_
           obtain rfl := Option.some.inj h
           exact lk_outS hτ rfl (here (by kernel_rfl))
          ·replace h := iteF hb h
           refine z4 ⟨[(0, (.row (.top 1000000) 36)), (1, (vI a)), (2, (vI b)), (3, (.fn 106 [])), (9, (vI x7707)), (10, (vI s5515.2.1)), (12, (vI s7965.1))], [(1000000, .row 36 [] (List.map c_Point s7965.2))]⟩ (by kernel_rfl) ?_
           refine sem_drawN [(15, [1000000])] [] [] [(2, [1000000]), (3, [1000000]), (4, [1000000])] [] 16 (by kernel_rfl) (by kernel_rfl) (by kernel_rfl) ?_
           refine evd_run 8 (by kernel_rfl) ?_
           obtain ⟨x8082, hx8082, h⟩ := bindS h
           refine evd_val (by kernel_rfl) (st_idxO (c := c_Point) (l := s7965.2) (i := (isub s7965.1 1)) (kd := .i64) (kk := (.top 1000000)) (e := 36) (sz := 4) (by kernel_rfl) (by kernel_rfl) hx8082 rfl) (by kernel_rfl) (by kernel_rfl) ?_
           refine evd_val (by kernel_rfl) (st_ldO (c := c_Point) (l := s7965.2) (i := (Int.toNat (isub s7965.1 1))) (v := (.agg [(vI x8082.X.A), (vI x8082.X.B), (vI x8082.Y.A), (vI x8082.Y.B)])) (agg := true) (sz := 4) (kk := (.top 1000000)) (e := 36) (off := 0) (J := []) (by kernel_rfl) (by kernel_rfl) (by kernel_rfl) ((idxS hx8082).2) (by kernel_rfl)) (by kernel_rfl) (by kernel_rfl) ?_
           refine evd_run 2 (by kernel_rfl) ?_
           obtain ⟨x8083, hx8083, h⟩ := bindS h
           refine evd_val (by kernel_rfl) (st_idxO (c := c_Point) (l := s7965.2) (i := s7965.1) (kd := .i64) (kk := (.top 1000000)) (e := 36) (sz := 4) (by kernel_rfl) (by kernel_rfl) hx8083 rfl) (by kernel_rfl) (by kernel_rfl) ?_
           refine evd_val (by kernel_rfl) (st_ldO (c := c_Point) (l := s7965.2) (i := (Int.toNat s7965.1)) (v := (.agg [(vI x8083.X.A), (vI x8083.X.B), (vI x8083.Y.A), (vI x8083.Y.B)])) (agg := true) (sz := 4) (kk := (.top 1000000)) (e := 36) (off := 0) (J := []) (by kernel_rfl) (by kernel_rfl) (by kernel_rfl) ((idxS hx8083).2) (by kernel_rfl)) (by kernel_rfl) (by kernel_rfl) ?_
           obtain ⟨x8084, hx8084, h⟩ := bindS h
           refine evd_val (by kernel_rfl) (st_idxO (c := c_Point) (l := s7965.2) (i := s7965.1) (kd := .i64) (kk := (.top 1000000)) (e := 36) (sz := 4) (by kernel_rfl) (by kernel_rfl) hx8084 rfl) (by kernel_rfl) (by kernel_rfl) ?_
           refine evd_set (by kernel_rfl) (st_stO (c := c_Point) (l := s7965.2) (i := (Int.toNat s7965.1)) (x := x8084) (x' := x8082) (v := (.agg [(vI x8082.X.A), (vI x8082.X.B), (vI x8082.Y.A), (vI x8082.Y.B)])) (agg := true) (sz := 4) (kk := (.top 1000000)) (e := 36) (off := 0) (J := []) (o := .row 36 [] (List.map c_Point (List.set s7965.2 (Int.toNat s7965.1) x8082))) (by kernel_rfl) (by kernel_rfl) (by kernel_rfl) ((idxS hx8084).2) (by kernel_rfl) (by kernel_rfl) (by kernel_rfl)) (by kernel_rfl) (by kernel_rfl) (by kernel_rfl) ?_
           refine evd_end (by kernel_rfl) ?_
           obtain ⟨x8085, hx8085, h⟩ := bindS h
           refine evo_op (st_idxO (c := c_Point) (l := (List.set s7965.2 (Int.toNat s7965.1) x8082)) (i := (isub s7965.1 1)) (kd := .i64) (kk := (.top 1000000)) (e := 36) (sz := 4) (by kernel_rfl) (by kernel_rfl) hx8085 rfl) ?_
           refine evo_op (st_stO (c := c_Point) (l := (List.set s7965.2 (Int.toNat s7965.1) x8082)) (i := (Int.toNat (isub s7965.1 1))) (x := x8085) (x' := x8083) (v := (.agg [(vI x8083.X.A), (vI x8083.X.B), (vI x8083.Y.A), (vI x8083.Y.B)])) (agg := true) (sz := 4) (kk := (.top 1000000)) (e := 36) (off := 0) (J := []) (o := .row 36 [] (List.map c_Point (List.set (List.set s7965.2 (Int.toNat s7965.1) x8082) (Int.toNat (isub s7965.1 1)) x8083))) (by kernel_rfl) (by kernel_rfl) (by kernel_rfl) ((idxS hx8085).2) (by kernel_rfl) (by kernel_rfl) (by kernel_rfl)) ?_
           refine evo_endS (by kernel_rfl) (fun τ hτ => ?_)
           refine bl_normal ?_
           refine th_normalS hτ ⟨[(0, (.row (.top 1000000) 36)), (1, (vI a)), (2, (vI b)), (3, (.fn 106 [])), (9, (vI x7707)), (10, (vI s5515.2.1)), (12, (vI s7965.1))], [(1000000, .row 36 [] (List.map c_Point (List.set (List.set s7965.2 (Int.toNat s7965.1) x8082) (Int.toNat (isub s7965.1 1)) x8083)))]⟩ (here (by kernel_rfl)) ?_
           refine sem_region (by kernel_rfl) ?_
           refine z6 3 (by kernel_rfl) (fun τ hτ => ?_)
           obtain rfl := Option.some.inj h
           exact lk_nextS hτ (here (by kernel_rfl))
         ·replace h := iteF hb h
          refine sem_exitS 6 (by kernel_rfl) rfl (fun τ hτ => ?_)
          refine th_exit ?_
          obtain rfl := Option.some.inj h
          exact lk_outS hτ rfl (here (by kernel_rfl))
        ·intro x
         rfl
        ·intro τ hτ
         refine bl_hit (by kernel_rfl) ?_
         refine bl_normal ?_
         exact jk_normal (x7707, x8086) h hτ (here (by kernel_rfl))
       ·replace h := iteF hb h
        refine sem_skipS (by kernel_rfl) (fun τ hτ => ?_)
        refine bl_normal ?_
        exact jk_normal (x7707, j7903) h hτ (here (by kernel_rfl))
      refine z3 4 ⟨[(0, (.row (.top 1000000) 36)), (1, (vI a)), (2, (vI b)), (3, (.fn 106 [])), (9, (vI x7707)), (10, (vI s5515.2.1)), (65, (vB (decide ((isub x7707 a) ≥ 2))))], [(1000000, .row 36 [] (List.map c_Point (List.set (List.set s5515.2.2 (Int.toNat x7707) x7716) (Int.toNat (isub x7707 1)) x7717)))]⟩ (by kernel_rfl) ?_
      refine sem_cond (decide ((isub x7707 a) ≥ 2)) (by kernel_rfl) (by kernel_rfl) (fun hb => ?_) (fun hb => ?_)
      ·replace h := iteT hb h
       refine z3 3 ⟨[(0, (.row (.top 1000000) 36)), (1, (vI a)), (2, (vI b)), (3, (.fn 106 [])), (9, (vI x7707)), (10, (vI s5515.2.1)), (11, (vI (isub x7707 1)))], [(1000000, .row 36 [] (List.map c_Point (List.set (List.set s5515.2.2 (Int.toNat x7707) x7716) (Int.toNat (isub x7707 1)) x7717)))]⟩ (by kernel_rfl) ?_
       refine sem_block (by kernel_rfl) ?_
       obtain ⟨x8269, hx8269, h⟩ := bindS h
       refine sem_loopS (fun (s8148 : Int × (List Point)) => ⟨[(0, (.row (.top 1000000) 36)), (1, (vI a)), (2, (vI b)), (3, (.fn 106 [])), (9, (vI x7707)), (10, (vI s5515.2.1)), (11, (vI s8148.1))], [(1000000, .row 36 [] (List.map c_Point s8148.2))]⟩) (fun (x8269 : (List Point)) => (.exit 4, ⟨[(0, (.row (.top 1000000) 36)), (1, (vI a)), (2, (vI b)), (3, (.fn 106 [])), (9, (vI x7707)), (10, (vI s5515.2.1))], [(1000000, .row 36 [] (List.map c_Point x8269))]⟩)) (slices_partialInsertionSortCmpFunc_api_Point__geom_comparePoints_l5) ((isub x7707 1), (List.set (List.set s5515.2.2 (Int.toNat x7707) x7716) (Int.toNat (isub x7707 1)) x7717)) x8269 (by kernel_rfl) (here (by kernel_rfl)) hx8269 ?_ ?_ ?_
       ·intro s8148 r h
        refine sem_seq (by kernel_rfl) ?_
        refine z3 2 ⟨[(0, (.row (.top 1000000) 36)), (1, (vI a)), (2, (vI b)), (3, (.fn 106 [])), (9, (vI x7707)), (10, (vI s5515.2.1)), (11, (vI s8148.1)), (69, (vB (decide (s8148.1 ≥ 1))))], [(1000000, .row 36 [] (List.map c_Point s8148.2))]⟩ (by kernel_rfl) ?_
        refine sem_cond (decide (s8148.1 ≥ 1)) (by kernel_rfl) (by kernel_rfl) (fun hb => ?_) (fun hb => ?_)
        ·replace h := iteT hb h
         refine z4 ⟨[(0, (.row (.top 1000000) 36)), (1, (vI a)), (2, (vI b)), (3, (.fn 106 [])), (9, (vI x7707)), (10, (vI s5515.2.1)), (11, (vI s8148.1))], [(1000000, .row 36 [] (List.map c_Point s8148.2))]⟩ (by kernel_rfl) ?_
         refine sem_seq (by kernel_rfl) ?_
         refine sem_block (by kernel_rfl) ?_
         refine sem_seq (by kernel_rfl) ?_
         refine sem_seq (by kernel_rfl) ?_
         refine sem_drawN [] [] [] [] [] 10 (by kernel_rfl) (by kernel_rfl) (by kernel_rfl) ?_
         refine evd_run 3 (by kernel_rfl) ?_
         obtain ⟨x8254, hx8254, h⟩ := bindS h
         refine evd_val (by kernel_rfl) (st_idxO (c := c_Point) (l := s8148.2) (i := s8148.1) (kd := .i64) (kk := (.top 1000000)) (e := 36) (sz := 4) (by kernel_rfl) (by kernel_rfl) hx8254 rfl) (by kernel_rfl) (by kernel_rfl) ?_
         refine evd_val (by kernel_rfl) (st_ldO (c := c_Point) (l := s8148.2) (i := (Int.toNat s8148.1)) (v := (.agg [(vI x8254.X.A), (vI x8254.X.B), (vI x8254.Y.A), (vI x8254.Y.B)])) (agg := true) (sz := 4) (kk := (.top 1000000)) (e := 36) (off := 0) (J := []) (by kernel_rfl) (by kernel_rfl) (by kernel_rfl) ((idxS hx8254).2) (by kernel_rfl)) (by kernel_rfl) (by kernel_rfl) ?_
         refine evd_run 3 (by kernel_rfl) ?_
         obtain ⟨x8255, hx8255, h⟩ := bindS h
         refine evd_val (by kernel_rfl) (st_idxO (c := c_Point) (l := s8148.2) (i := (isub s8148.1 1)) (kd := .i64) (kk := (.top 1000000)) (e := 36) (sz := 4) (by kernel_rfl) (by kernel_rfl) hx8255 rfl) (by kernel_rfl) (by kernel_rfl) ?_
         refine evd_val (by kernel_rfl) (st_ldO (c := c_Point) (l := s8148.2) (i := (Int.toNat (isub s8148.1 1))) (v := (.agg [(vI x8255.X.A), (vI x8255.X.B), (vI x8255.Y.A), (vI x8255.Y.B)])) (agg := true) (sz := 4) (kk := (.top 1000000)) (e := 36) (off := 0) (J := []) (by kernel_rfl) (by kernel_rfl) (by kernel_rfl) ((idxS hx8255).2) (by kernel_rfl)) (by kernel_rfl) (by kernel_rfl) ?_
         refine evd_end (by kernel_rfl) ?_
         obtain ⟨r8256, hr8256, h⟩ := bindS h
         refine evo_callP [] (by kernel_rfl) (W.geom_comparePoints_ok hr8256) (by kernel_rfl) (.inl rfl) (by kernel_rfl) ?_
         refine evo_run 2 (by kernel_rfl) ?_
         refine evo_endS (by kernel_rfl) (fun τ hτ => ?_)
         refine th_normalS hτ ⟨[(0, (.row (.top 1000000) 36)), (1, (vI a)), (2, (vI b)), (3, (.fn 106 [])), (9, (vI x7707)), (10, (vI s5515.2.1)), (11, (vI s8148.1)), (84, (vB (!(decide (r8256 < 0)))))], [(1000000, .row 36 [] (List.map c_Point s8148.2))]⟩ (here (by kernel_rfl)) ?_
         refine sem_cond (!(decide (r8256 < 0))) (by kernel_rfl) (by kernel_rfl) (fun hb => ?_) (fun hb => ?_)
         ·replace h := iteT hb h
          refine sem_exitS 4 (by kernel_rfl) rfl (fun τ hτ => ?_)
          refine th_exit ?_
          refine bl_miss (by kernel_rfl) ?_
          refine th_exit ?_
          obtain rfl := Option.some.inj h
          exact lk_outS hτ rfl (here (by kernel_rfl))
         ·replace h := iteF hb h
          refine z4 ⟨[(0, (.row (.top 1000000) 36)), (1, (vI a)), (2, (vI b)), (3, (.fn 106 [])), (9, (vI x7707)), (10, (vI s5515.2.1)), (11, (vI s8148.1))], [(1000000, .row 36 [] (List.map c_Point s8148.2))]⟩ (by kernel_rfl) ?_
          refine sem_drawN [(15, [1000000])] [] [] [(2, [1000000]), (3, [1000000]), (4, [1000000])] [] 16 (by kernel_rfl) (by kernel_rfl) (by kernel_rfl) ?_
          refine evd_run 8 (by kernel_rfl) ?_
          obtain ⟨x8265, hx8265, h⟩ := bindS h
          refine evd_val (by kernel_rfl) (st_idxO (c := c_Point) (l := s8148.2) (i := (isub s8148.1 1)) (kd := .i64) (kk := (.top 1000000)) (e := 36) (sz := 4) (by kernel_rfl) (by kernel_rfl) hx8265 rfl) (by kernel_rfl) (by kernel_rfl) ?_
          refine evd_val (by kernel_rfl) (st_ldO (c := c_Point) (l := s8148.2) (i := (Int.toNat (isub s8148.1 1))) (v := (.agg [(vI x8265.X.A), (vI x8265.X.B), (vI x8265.Y.A), (vI x8265.Y.B)])) (agg := true) (sz := 4) (kk := (.top 1000000)) (e := 36) (off := 0) (J := []) (by kernel_rfl) (by kernel_rfl) (by kernel_rfl) ((idxS hx8265).2) (by kernel_rfl)) (by kernel_rfl) (by kernel_rfl) ?_
          refine evd_run 2 (by kernel_rfl) ?_
          obtain ⟨x8266, hx8266, h⟩ := bindS h
          refine evd_val (by kernel_rfl) (st_idxO (c := c_Point) (l := s8148.2) (i := s8148.1) (kd := .i64) (kk := (.top 1000000)) (e := 36) (sz := 4) (by kernel_rfl) (by kernel_rfl) hx8266 rfl) (by kernel_rfl) (by kernel_rfl) ?_
          refine evd_val (by kernel_rfl) (st_ldO (c := c_Point) (l := s8148.2) (i := (Int.toNat s8148.1)) (v := (.agg [(vI x8266.X.A), (vI x8266.X.B), (vI x8266.Y.A), (vI x8266.Y.B)])) (agg := true) (sz := 4) (kk := (.top 1000000)) (e := 36) (off := 0) (J := []) (by kernel_rfl) (by kernel_rfl) (by kernel_rfl) ((idxS hx8266).2) (by kernel_rfl)) (by kernel_rfl) (by kernel_rfl) ?_
          obtain ⟨x8267, hx8267, h⟩ := bindS h
          refine evd_val (by kernel_rfl) (st_idxO (c := c_Point) (l := s8148.2) (i := s8148.1) (kd := .i64) (kk := (.top 1000000)) (e := 36) (sz := 4) (by kernel_rfl) (by kernel_rfl) hx8267 rfl) (by kernel_rfl) (by kernel_rfl) ?_
          refine evd_set (by kernel_rfl) (st_stO (c := c_Point) (l := s8148.2) (i := (Int.toNat s8148.1)) (x := x8267) (x' := x8265) (v := (.agg [(vI x8265.X.A), (vI x8265.X.B), (vI x8265.Y.A), (vI x8265.Y.B)])) (agg := true) (sz := 4) (kk := (.top 1000000)) (e := 36) (off := 0) (J := []) (o := .row 36 [] (List.map c_Point (List.set s8148.2 (Int.toNat s8148.1) x8265))) (by kernel_rfl) (by kernel_rfl) (by kernel_rfl) ((idxS hx8267).2) (by kernel_rfl) (by kernel_rfl) (by kernel_rfl)) (by kernel_rfl) (by kernel_rfl) (by kernel_rfl) ?_
          refine evd_end (by kernel_rfl) ?_
          obtain ⟨x8268, hx8268, h⟩ := bindS h
          refine evo_op (st_idxO (c := c_Point) (l := (List.set s8148.2 (Int.toNat s8148.1) x8265)) (i := (isub s8148.1 1)) (kd := .i64) (kk := (.top 1000000)) (e := 36) (sz := 4) (by kernel_rfl) (by kernel_rfl) hx8268 rfl) ?_
          refine evo_op (st_stO (c := c_Point) (l := (List.set s8148.2 (Int.toNat s8148.1) x8265)) (i := (Int.toNat (isub s8148.1 1))) (x := x8268) (x' := x8266) (v := (.agg [(vI x8266.X.A), (vI x8266.X.B), (vI x8266.Y.A), (vI x8266.Y.B)])) (agg := true) (sz := 4) (kk := (.top 1000000)) (e := 36) (off := 0) (J := []) (o := .row 36 [] (List.map c_Point (List.set (List.set s8148.2 (Int.toNat s8148.1) x8265) (Int.toNat (isub s8148.1 1)) x8266))) (by kernel_rfl) (by kernel_rfl) (by kernel_rfl) ((idxS hx8268).2) (by kernel_rfl) (by kernel_rfl) (by kernel_rfl)) ?_
          refine evo_endS (by kernel_rfl) (fun τ hτ => ?_)
          refine bl_normal ?_
          refine th_normalS hτ ⟨[(0, (.row (.top 1000000) 36)), (1, (vI a)), (2, (vI b)), (3, (.fn 106 [])), (9, (vI x7707)), (10, (vI s5515.2.1)), (11, (vI s8148.1))], [(1000000, .row 36 [] (List.map c_Point (List.set (List.set s8148.2 (Int.toNat s8148.1) x8265) (Int.toNat (isub s8148.1 1)) x8266)))]⟩ (here (by kernel_rfl)) ?_
          refine sem_region (by kernel_rfl) ?_
          refine z6 3 (by kernel_rfl) (fun τ hτ => ?_)
          obtain rfl := Option.some.inj h
          exact lk_nextS hτ (here (by kernel_rfl))
        ·replace h := iteF hb h
         refine sem_exitS 4 (by kernel_rfl) rfl (fun τ hτ => ?_)
         refine th_exit ?_
         obtain rfl := Option.some.inj h
         exact lk_outS hτ rfl (here (by kernel_rfl))
       ·intro x
        rfl
       ·intro τ hτ
        refine bl_hit (by kernel_rfl) ?_
        exact jk_normal x8269 h hτ (here (by kernel_rfl))
      ·replace h := iteF hb h
       refine sem_skipS (by kernel_rfl) (fun τ hτ => ?_)
       exact jk_normal (List.set (List.set s5515.2.2 (Int.toNat x7707) x7716) (Int.toNat (isub x7707 1)) x7717) h hτ (here (by kernel_rfl))
  ·replace h := iteF hb h
   refine sem_exitS 0 (by kernel_rfl) rfl (fun τ hτ => ?_)
   refine th_exit ?_
   obtain rfl := Option.some.inj h
   exact lk_outS hτ rfl (here (by kernel_rfl))
 ·intro x
  rcases x with _ | _ <;> rfl
 ·intro τ hτ
  rcases x8270 with j8271 | j8272
  ·refine bl_ret ?_
   refine th_ret ?_
   obtain rfl := Option.some.inj h
   exact rk_ret hτ [(8, (vB j8271.1))] (here (by kernel_rfl)) (by kernel_rfl)
  ·refine bl_hit (by kernel_rfl) ?_
   refine th_normalS hτ ⟨[], [(1000000, .row 36 [] (List.map c_Point j8272))]⟩ (here (by kernel_rfl)) ?_
   refine z8 1 ⟨[(8, (vB false))], [(1000000, .row 36 [] (List.map c_Point j8272))]⟩ (by kernel_rfl) (fun τ hτ => ?_)
   obtain rfl := Option.some.inj h
   exact rk_ret hτ [(8, (vB false))] (here (by kernel_rfl)) (by kernel_rfl)
theorem W.slices_partitionEqualCmpFunc_api_Point__geom_comparePoints_ok {a : Int} {b : Int} {pivot : Int} {h0 : (List Point)} {r : Int × (List Point)} (h : slices_partitionEqualCmpFunc_api_Point__geom_comparePoints a b pivot h0 = some r) : PC G.P 132 [(.row (.top 1000000) 36), (vI a), (vI b), (vI pivot), (.fn 106 [])] [(1000000, .row 36 [] (List.map c_Point h0))] (vI r.1) [(1000000, .row 36 [] (List.map c_Point r.2))] := by
 refine pc_of G (fn := Try.f132) Try.func132 (by kernel_rfl) (by kernel_rfl) (by kernel_rfl) (by kernel_rfl) (by kernel_rfl) ?_
 refine sem_set ⟨[(0, (.row (.top 1000000) 36)), (1, (vI a)), (2, (vI b)), (3, (vI pivot)), (4, (.fn 106 []))], [(1000000, .row 36 [] (List.map c_Point h0))]⟩ (by kernel_rfl) ?_
 refine z3 1 ⟨[(0, (.row (.top 1000000) 36)), (1, (vI a)), (2, (vI b)), (3, (vI pivot)), (4, (.fn 106 []))], [(1000000, .row 36 [] (List.map c_Point h0))]⟩ (by kernel_rfl) ?_
 refine sem_seq (by kernel_rfl) ?_
 refine sem_drawN [(13, [1000000])] [] [] [(2, [1000000]), (3, [1000000])] [] 14 (by kernel_rfl) (by kernel_rfl) (by kernel_rfl) ?_
 refine evd_run 6 (by kernel_rfl) ?_
 obtain ⟨x9, hx9, h⟩ := bindS h
 refine evd_val (by kernel_rfl) (st_idxO (c := c_Point) (l := h0) (i := pivot) (kd := .i64) (kk := (.top 1000000)) (e := 36) (sz := 4) (by kernel_rfl) (by kernel_rfl) hx9 rfl) (by kernel_rfl) (by kernel_rfl) ?_
 refine evd_val (by kernel_rfl) (st_ldO (c := c_Point) (l := h0) (i := (Int.toNat pivot)) (v := (.agg [(vI x9.X.A), (vI x9.X.B), (vI x9.Y.A), (vI x9.Y.B)])) (agg := true) (sz := 4) (kk := (.top 1000000)) (e := 36) (off := 0) (J := []) (by kernel_rfl) (by kernel_rfl) (by kernel_rfl) ((idxS hx9).2) (by kernel_rfl)) (by kernel_rfl) (by kernel_rfl) ?_
 refine evd_run 2 (by kernel_rfl) ?_
 obtain ⟨x10, hx10, h⟩ := bindS h
 refine evd_val (by kernel_rfl) (st_idxO (c := c_Point) (l := h0) (i := a) (kd := .i64) (kk := (.top 1000000)) (e := 36) (sz := 4) (by kernel_rfl) (by kernel_rfl) hx10 rfl) (by kernel_rfl) (by kernel_rfl) ?_
 refine evd_val (by kernel_rfl) (st_ldO (c := c_Point) (l := h0) (i := (Int.toNat a)) (v := (.agg [(vI x10.X.A), (vI x10.X.B), (vI x10.Y.A), (vI x10.Y.B)])) (agg := true) (sz := 4) (kk := (.top 1000000)) (e := 36) (off := 0) (J := []) (by kernel_rfl) (by kernel_rfl) (by kernel_rfl) ((idxS hx10).2) (by kernel_rfl)) (by kernel_rfl) (by kernel_rfl) ?_
 obtain ⟨x11, hx11, h⟩ := bindS h
 refine evd_val (by kernel_rfl) (st_idxO (c := c_Point) (l := h0) (i := a) (kd := .i64) (kk := (.top 1000000)) (e := 36) (sz := 4) (by kernel_rfl) (by kernel_rfl) hx11 rfl) (by kernel_rfl) (by kernel_rfl) ?_
 refine evd_set (by kernel_rfl) (st_stO (c := c_Point) (l := h0) (i := (Int.toNat a)) (x := x11) (x' := x9) (v := (.agg [(vI x9.X.A), (vI x9.X.B), (vI x9.Y.A), (vI x9.Y.B)])) (agg := true) (sz := 4) (kk := (.top 1000000)) (e := 36) (off := 0) (J := []) (o := .row 36 [] (List.map c_Point (List.set h0 (Int.toNat a) x9))) (by kernel_rfl) (by kernel_rfl) (by kernel_rfl) ((idxS hx11).2) (by kernel_rfl) (by kernel_rfl) (by kernel_rfl)) (by kernel_rfl) (by kernel_rfl) (by kernel_rfl) ?_
 refine evd_end (by kernel_rfl) ?_
 obtain ⟨x12, hx12, h⟩ := bindS h
 refine evo_op (st_idxO (c := c_Point) (l := (List.set h0 (Int.toNat a) x9)) (i := pivot) (kd := .i64) (kk := (.top 1000000)) (e := 36) (sz := 4) (by kernel_rfl) (by kernel_rfl) hx12 rfl) ?_
 refine evo_op (st_stO (c := c_Point) (l := (List.set h0 (Int.toNat a) x9)) (i := (Int.toNat pivot)) (x := x12) (x' := x10) (v := (.agg [(vI x10.X.A), (vI x10.X.B), (vI x10.Y.A), (vI x10.Y.B)])) (agg := true) (sz := 4) (kk := (.top 1000000)) (e := 36) (off := 0) (J := []) (o := .row 36 [] (List.map c_Point (List.set (List.set h0 (Int.toNat a) x9) (Int.toNat pivot) x10))) (by kernel_rfl) (by kernel_rfl) (by kernel_rfl) ((idxS hx12).2) (by kernel_rfl) (by kernel_rfl) (by kernel_rfl)) ?_
 refine evo_endS (by kernel_rfl) (fun τ hτ => ?_)
 refine th_normalS hτ ⟨[(0, (.row (.top 1000000) 36)), (1, (vI a)), (2, (vI b)), (4, (.fn 106 []))], [(1000000, .row 36 [] (List.map c_Point (List.set (List.set h0 (Int.toNat a) x9) (Int.toNat pivot) x10)))]⟩ (here (by kernel_rfl)) ?_
 refine z3 6 ⟨[(0, (.row (.top 1000000) 36)), (1, (vI a)), (4, (.fn 106 [])), (11, (vI (iadd a 1))), (12, (vI (isub b 1)))], [(1000000, .row 36 [] (List.map c_Point (List.set (List.set h0 (Int.toNat a) x9) (Int.toNat pivot) x10)))]⟩ (by kernel_rfl) ?_
 refine sem_seq (by kernel_rfl) ?_
 refine sem_block (by kernel_rfl) ?_
 obtain ⟨x1602, hx1602, h⟩ := bindS h
 refine sem_loopS (fun (s1073 : Int × Int × (List Point)) => ⟨[(0, (.row (.top 1000000) 36)), (1, (vI a)), (4, (.fn 106 [])), (11, (vI s1073.1)), (12, (vI s1073.2.1))], [(1000000, .row 36 [] (List.map c_Point s1073.2.2))]⟩) (fun (x1602 : Int × (List Point)) => (.exit 0, ⟨[(11, (vI x1602.1))], [(1000000, .row 36 [] (List.map c_Point x1602.2))]⟩)) (slices_partitionEqualCmpFunc_api_Point__geom_comparePoints_l3 a) ((iadd a 1), (isub b 1), (List.set (List.set h0 (Int.toNat a) x9) (Int.toNat pivot) x10)) x1602 (by kernel_rfl) (here (by kernel_rfl)) hx1602 ?_ ?_ ?_
 ·intro s1073 r h
  refine sem_block (by kernel_rfl) ?_
  refine sem_seq (by kernel_rfl) ?_
  refine sem_block (by kernel_rfl) ?_
  obtain ⟨x1463, hx1463, h⟩ := bindS h
  refine sem_loopS (fun (s1422 : Int) => ⟨[(0, (.row (.top 1000000) 36)), (1, (vI a)), (4, (.fn 106 [])), (11, (vI s1422)), (12, (vI s1073.2.1))], [(1000000, .row 36 [] (List.map c_Point s1073.2.2))]⟩) (fun (x1463 : Int) => (.exit 2, ⟨[(0, (.row (.top 1000000) 36)), (1, (vI a)), (4, (.fn 106 [])), (11, (vI x1463)), (12, (vI s1073.2.1))], [(1000000, .row 36 [] (List.map c_Point s1073.2.2))]⟩)) (slices_partitionEqualCmpFunc_api_Point__geom_comparePoints_l1 a s1073) s1073.1 x1463 (by kernel_rfl) (here (by kernel_rfl)) hx1463 ?_ ?_ ?_
  ·intro s1422 r h
   refine sem_seq (by kernel_rfl) ?_
   refine sem_seq (by kernel_rfl) ?_
   obtain ⟨j1459, hj1459, h⟩ := bindS h
   refine sem_drawP ⟨[(0, (.row (.top 1000000) 36)), (1, (vI a)), (4, (.fn 106 [])), (11, (vI s1422)), (12, (vI s1073.2.1)), (47, (vB j1459))], [(1000000, .row 36 [] (List.map c_Point s1073.2.2))]⟩ [] [] [] [] [] 13 (by kernel_rfl) (by kernel_rfl) (by kernel_rfl) ?_ (fun τ hτ => ?_)
   ·replace h := hj1459
    refine evd_run 4 (by kernel_rfl) ?_
    refine evd_split (decide (s1422 ≤ s1073.2.1)) (fun b0 => ⟨[(34, (vB b0)), (33, (vB b0)), (32, (vI s1073.2.1)), (31, (vI s1422)), (0, (.row (.top 1000000) 36)), (1, (vI a)), (4, (.fn 106 [])), (11, (vI s1422)), (12, (vI s1073.2.1))], [(1000000, .row 36 [] (List.map c_Point s1073.2.2))]⟩) (by kernel_rfl) (fun hb => ?_) (fun hb => ?_)
    ·replace h := iteT hb h
     refine evd_run 3 (by kernel_rfl) ?_
     obtain ⟨x1460, hx1460, h⟩ := bindS h
     refine evd_val (by kernel_rfl) (st_idxO (c := c_Point) (l := s1073.2.2) (i := a) (kd := .i64) (kk := (.top 1000000)) (e := 36) (sz := 4) (by kernel_rfl) (by kernel_rfl) hx1460 rfl) (by kernel_rfl) (by kernel_rfl) ?_
     refine evd_val (by kernel_rfl) (st_ldO (c := c_Point) (l := s1073.2.2) (i := (Int.toNat a)) (v := (.agg [(vI x1460.X.A), (vI x1460.X.B), (vI x1460.Y.A), (vI x1460.Y.B)])) (agg := true) (sz := 4) (kk := (.top 1000000)) (e := 36) (off := 0) (J := []) (by kernel_rfl) (by kernel_rfl) (by kernel_rfl) ((idxS hx1460).2) (by kernel_rfl)) (by kernel_rfl) (by kernel_rfl) ?_
     refine evd_run 2 (by kernel_rfl) ?_
     obtain ⟨x1461, hx1461, h⟩ := bindS h
     refine evd_val (by kernel_rfl) (st_idxO (c := c_Point) (l := s1073.2.2) (i := s1422) (kd := .i64) (kk := (.top 1000000)) (e := 36) (sz := 4) (by kernel_rfl) (by kernel_rfl) hx1461 rfl) (by kernel_rfl) (by kernel_rfl) ?_
     refine evd_val (by kernel_rfl) (st_ldO (c := c_Point) (l := s1073.2.2) (i := (Int.toNat s1422)) (v := (.agg [(vI x1461.X.A), (vI x1461.X.B), (vI x1461.Y.A), (vI x1461.Y.B)])) (agg := true) (sz := 4) (kk := (.top 1000000)) (e := 36) (off := 0) (J := []) (by kernel_rfl) (by kernel_rfl) (by kernel_rfl) ((idxS hx1461).2) (by kernel_rfl)) (by kernel_rfl) (by kernel_rfl) ?_
     refine evd_end (by kernel_rfl) ?_
     obtain ⟨r1462, hr1462, h⟩ := bindS h
     refine evo_callP [] (by kernel_rfl) (W.geom_comparePoints_ok hr1462) (by kernel_rfl) (.inl rfl) (by kernel_rfl) ?_
     refine evo_run 3 (by kernel_rfl) ?_
     refine evo_endS (by kernel_rfl) (fun τ hτ => ?_)
     obtain rfl := Option.some.inj h
     exact leafC hτ (here (by kernel_rfl))
    ·replace h := iteF hb h
     refine evd_run 9 (by kernel_rfl) ?_
     refine evd_end (by kernel_rfl) ?_
     refine evo_run 4 (by kernel_rfl) ?_
     refine evo_endS (by kernel_rfl) (fun τ hτ => ?_)
     obtain rfl := Option.some.inj h
     exact leafC hτ (here (by kernel_rfl))
   refine th_normalS hτ ⟨[(0, (.row (.top 1000000) 36)), (1, (vI a)), (4, (.fn 106 [])), (11, (vI s1422)), (12, (vI s1073.2.1)), (47, (vB j1459))], [(1000000, .row 36 [] (List.map c_Point s1073.2.2))]⟩ (here (by kernel_rfl)) ?_
   refine sem_cond j1459 (by kernel_rfl) (by kernel_rfl) (fun hb => ?_) (fun hb => ?_)
   ·replace h := iteT hb h
    refine z4 ⟨[(0, (.row (.top 1000000) 36)), (1, (vI a)), (4, (.fn 106 [])), (11, (vI s1422)), (12, (vI s1073.2.1))], [(1000000, .row 36 [] (List.map c_Point s1073.2.2))]⟩ (by kernel_rfl) ?_
    refine sem_block (by kernel_rfl) ?_
    refine sem_region (by kernel_rfl) ?_
    refine z6 3 (by kernel_rfl) (fun τ hτ => ?_)
    refine bl_normal ?_
    obtain rfl := Option.some.inj h
    exact lk_nextS hτ (here (by kernel_rfl))
   ·replace h := iteF hb h
    refine sem_exitS 2 (by kernel_rfl) rfl (fun τ hτ => ?_)
    refine th_exit ?_
    obtain rfl := Option.some.inj h
    exact lk_outS hτ rfl (here (by kernel_rfl))
  ·intro x
   rfl
  ·intro τ hτ
   refine bl_hit (by kernel_rfl) ?_
   refine th_normalS hτ ⟨[(0, (.row (.top 1000000) 36)), (1, (vI a)), (4, (.fn 106 [])), (11, (vI x1463)), (12, (vI s1073.2.1))], [(1000000, .row 36 [] (List.map c_Point s1073.2.2))]⟩ (here (by kernel_rfl)) ?_
   refine sem_seq (by kernel_rfl) ?_
   refine sem_block (by kernel_rfl) ?_
   obtain ⟨x1589, hx1589, h⟩ := bindS h
   refine sem_loopS (fun (s1548 : Int) => ⟨[(0, (.row (.top 1000000) 36)), (1, (vI a)), (4, (.fn 106 [])), (11, (vI x1463)), (12, (vI s1548))], [(1000000, .row 36 [] (List.map c_Point s1073.2.2))]⟩) (fun (x1589 : Int) => (.exit 4, ⟨[(0, (.row (.top 1000000) 36)), (1, (vI a)), (4, (.fn 106 [])), (11, (vI x1463)), (12, (vI x1589))], [(1000000, .row 36 [] (List.map c_Point s1073.2.2))]⟩)) (slices_partitionEqualCmpFunc_api_Point__geom_comparePoints_l2 a s1073 x1463) s1073.2.1 x1589 (by kernel_rfl) (here (by kernel_rfl)) hx1589 ?_ ?_ ?_
   ·intro s1548 r h
    refine sem_seq (by kernel_rfl) ?_
    refine sem_seq (by kernel_rfl) ?_
    obtain ⟨j1585, hj1585, h⟩ := bindS h
    refine sem_drawP ⟨[(0, (.row (.top 1000000) 36)), (1, (vI a)), (4, (.fn 106 [])), (11, (vI x1463)), (12, (vI s1548)), (65, (vB j1585))], [(1000000, .row 36 [] (List.map c_Point s1073.2.2))]⟩ [] [] [] [] [] 13 (by kernel_rfl) (by kernel_rfl) (by kernel_rfl) ?_ (fun τ hτ => ?_)
    ·replace h := hj1585
     refine evd_run 4 (by kernel_rfl) ?_
     refine evd_split (decide (x1463 ≤ s1548)) (fun b0 => ⟨[(53, (vB b0)), (52, (vB b0)), (51, (vI s1548)), (50, (vI x1463)), (0, (.row (.top 1000000) 36)), (1, (vI a)), (4, (.fn 106 [])), (11, (vI x1463)), (12, (vI s1548))], [(1000000, .row 36 [] (List.map c_Point s1073.2.2))]⟩) (by kernel_rfl) (fun hb => ?_) (fun hb => ?_)
     ·replace h := iteT hb h
      refine evd_run 3 (by kernel_rfl) ?_
      obtain ⟨x1586, hx1586, h⟩ := bindS h
      refine evd_val (by kernel_rfl) (st_idxO (c := c_Point) (l := s1073.2.2) (i := a) (kd := .i64) (kk := (.top 1000000)) (e := 36) (sz := 4) (by kernel_rfl) (by kernel_rfl) hx1586 rfl) (by kernel_rfl) (by kernel_rfl) ?_
      refine evd_val (by kernel_rfl) (st_ldO (c := c_Point) (l := s1073.2.2) (i := (Int.toNat a)) (v := (.agg [(vI x1586.X.A), (vI x1586.X.B), (vI x1586.Y.A), (vI x1586.Y.B)])) (agg := true) (sz := 4) (kk := (.top 1000000)) (e := 36) (off := 0) (J := []) (by kernel_rfl) (by kernel_rfl) (by kernel_rfl) ((idxS hx1586).2) (by kernel_rfl)) (by kernel_rfl) (by kernel_rfl) ?_
      refine evd_run 2 (by kernel_rfl) ?_
      obtain ⟨x1587, hx1587, h⟩ := bindS h
      refine evd_val (by kernel_rfl) (st_idxO (c := c_Point) (l := s1073.2.2) (i := s1548) (kd := .i64) (kk := (.top 1000000)) (e := 36) (sz := 4) (by kernel_rfl) (by kernel_rfl) hx1587 rfl) (by kernel_rfl) (by kernel_rfl) ?_
      refine evd_val (by kernel_rfl) (st_ldO (c := c_Point) (l := s1073.2.2) (i := (Int.toNat s1548)) (v := (.agg [(vI x1587.X.A), (vI x1587.X.B), (vI x1587.Y.A), (vI x1587.Y.B)])) (agg := true) (sz := 4) (kk := (.top 1000000)) (e := 36) (off := 0) (J := []) (by kernel_rfl) (by kernel_rfl) (by kernel_rfl) ((idxS hx1587).2) (by kernel_rfl)) (by kernel_rfl) (by kernel_rfl) ?_
      refine evd_end (by kernel_rfl) ?_
      obtain ⟨r1588, hr1588, h⟩ := bindS h
      refine evo_callP [] (by kernel_rfl) (W.geom_comparePoints_ok hr1588) (by kernel_rfl) (.inl rfl) (by kernel_rfl) ?_
      refine evo_run 2 (by kernel_rfl) ?_
      refine evo_endS (by kernel_rfl) (fun τ hτ => ?_)
      obtain rfl := Option.some.inj h
      exact leafC hτ (here (by kernel_rfl))
     ·replace h := iteF hb h
      refine evd_run 9 (by kernel_rfl) ?_
      refine evd_end (by kernel_rfl) ?_
      refine evo_run 3 (by kernel_rfl) ?_
      refine evo_endS (by kernel_rfl) (fun τ hτ => ?_)
      obtain rfl := Option.some.inj h
      exact leafC hτ (here (by kernel_rfl))
    refine th_normalS hτ ⟨[(0, (.row (.top 1000000) 36)), (1, (vI a)), (4, (.fn 106 [])), (11, (vI x1463)), (12, (vI s1548)), (65, (vB j1585))], [(1000000, .row 36 [] (List.map c_Point s1073.2.2))]⟩ (here (by kernel_rfl)) ?_
    refine sem_cond j1585 (by kernel_rfl) (by kernel_rfl) (fun hb => ?_) (fun hb => ?_)
    ·replace h := iteT hb h
     refine z4 ⟨[(0, (.row (.top 1000000) 36)), (1, (vI a)), (4, (.fn 106 [])), (11, (vI x1463)), (12, (vI s1548))], [(1000000, .row 36 [] (List.map c_Point s1073.2.2))]⟩ (by kernel_rfl) ?_
     refine sem_block (by kernel_rfl) ?_
     refine sem_region (by kernel_rfl) ?_
     refine z6 3 (by kernel_rfl) (fun τ hτ => ?_)
     refine bl_normal ?_
     obtain rfl := Option.some.inj h
     exact lk_nextS hτ (here (by kernel_rfl))
    ·replace h := iteF hb h
     refine sem_exitS 4 (by kernel_rfl) rfl (fun τ hτ => ?_)
     refine th_exit ?_
     obtain rfl := Option.some.inj h
     exact lk_outS hτ rfl (here (by kernel_rfl))
   ·intro x
    rfl
   ·intro τ hτ
    refine bl_hit (by kernel_rfl) ?_
    refine th_normalS hτ ⟨[(0, (.row (.top 1000000) 36)), (1, (vI a)), (4, (.fn 106 [])), (11, (vI x1463)), (12, (vI x1589))], [(1000000, .row 36 [] (List.map c_Point s1073.2.2))]⟩ (here (by kernel_rfl)) ?_
    refine sem_seq (by kernel_rfl) ?_
    refine z3 3 ⟨[(0, (.row (.top 1000000) 36)), (1, (vI a)), (4, (.fn 106 [])), (11, (vI x1463)), (12, (vI x1589)), (70, (vB (decide (x1463 > x1589))))], [(1000000, .row 36 [] (List.map c_Point s1073.2.2))]⟩ (by kernel_rfl) ?_
    refine sem_cond (decide (x1463 > x1589)) (by kernel_rfl) (by kernel_rfl) (fun hb => ?_) (fun hb => ?_)
    ·replace h := iteT hb h
     refine sem_exitS 0 (by kernel_rfl) rfl (fun τ hτ => ?_)
     refine th_exit ?_
     refine bl_miss (by kernel_rfl) ?_
     obtain rfl := Option.some.inj h
     exact lk_outS hτ rfl (here (by kernel_rfl))
    ·replace h := iteF hb h
     refine z4 ⟨[(0, (.row (.top 1000000) 36)), (1, (vI a)), (4, (.fn 106 [])), (11, (vI x1463)), (12, (vI x1589))], [(1000000, .row 36 [] (List.map c_Point s1073.2.2))]⟩ (by kernel_rfl) ?_
     refine sem_seq (by kernel_rfl) ?_
     refine sem_drawN [(13, [1000000])] [] [] [(2, [1000000]), (3, [1000000])] [] 14 (by kernel_rfl) (by kernel_rfl) (by kernel_rfl) ?_
     refine evd_run 6 (by kernel_rfl) ?_
     obtain ⟨x1598, hx1598, h⟩ := bindS h
     refine evd_val (by kernel_rfl) (st_idxO (c := c_Point) (l := s1073.2.2) (i := x1589) (kd := .i64) (kk := (.top 1000000)) (e := 36) (sz := 4) (by kernel_rfl) (by kernel_rfl) hx1598 rfl) (by kernel_rfl) (by kernel_rfl) ?_
     refine evd_val (by kernel_rfl) (st_ldO (c := c_Point) (l := s1073.2.2) (i := (Int.toNat x1589)) (v := (.agg [(vI x1598.X.A), (vI x1598.X.B), (vI x1598.Y.A), (vI x1598.Y.B)])) (agg := true) (sz := 4) (kk := (.top 1000000)) (e := 36) (off := 0) (J := []) (by kernel_rfl) (by kernel_rfl) (by kernel_rfl) ((idxS hx1598).2) (by kernel_rfl)) (by kernel_rfl) (by kernel_rfl) ?_
     refine evd_run 2 (by kernel_rfl) ?_
     obtain ⟨x1599, hx1599, h⟩ := bindS h
     refine evd_val (by kernel_rfl) (st_idxO (c := c_Point) (l := s1073.2.2) (i := x1463) (kd := .i64) (kk := (.top 1000000)) (e := 36) (sz := 4) (by kernel_rfl) (by kernel_rfl) hx1599 rfl) (by kernel_rfl) (by kernel_rfl) ?_
     refine evd_val (by kernel_rfl) (st_ldO (c := c_Point) (l := s1073.2.2) (i := (Int.toNat x1463)) (v := (.agg [(vI x1599.X.A), (vI x1599.X.B), (vI x1599.Y.A), (vI x1599.Y.B)])) (agg := true) (sz := 4) (kk := (.top 1000000)) (e := 36) (off := 0) (J := []) (by kernel_rfl) (by kernel_rfl) (by kernel_rfl) ((idxS hx1599).2) (by kernel_rfl)) (by kernel_rfl) (by kernel_rfl) ?_
     obtain ⟨x1600, hx1600, h⟩ := bindS h
     refine evd_val (by kernel_rfl) (st_idxO (c := c_Point) (l := s1073.2.2) (i := x1463) (kd := .i64) (kk := (.top 1000000)) (e := 36) (sz := 4) (by kernel_rfl) (by kernel_rfl) hx1600 rfl) (by kernel_rfl) (by kernel_rfl) ?_
     refine evd_set (by kernel_rfl) (st_stO (c := c_Point) (l := s1073.2.2) (i := (Int.toNat x1463)) (x := x1600) (x' := x1598) (v := (.agg [(vI x1598.X.A), (vI x1598.X.B), (vI x1598.Y.A), (vI x1598.Y.B)])) (agg := true) (sz := 4) (kk := (.top 1000000)) (e := 36) (off := 0) (J := []) (o := .row 36 [] (List.map c_Point (List.set s1073.2.2 (Int.toNat x1463) x1598))) (by kernel_rfl) (by kernel_rfl) (by kernel_rfl) ((idxS hx1600).2) (by kernel_rfl) (by kernel_rfl) (by kernel_rfl)) (by kernel_rfl) (by kernel_rfl) (by kernel_rfl) ?_
     refine evd_end (by kernel_rfl) ?_
     obtain ⟨x1601, hx1601, h⟩ := bindS h
     refine evo_op (st_idxO (c := c_Point) (l := (List.set s1073.2.2 (Int.toNat x1463) x1598)) (i := x1589) (kd := .i64) (kk := (.top 1000000)) (e := 36) (sz := 4) (by kernel_rfl) (by kernel_rfl) hx1601 rfl) ?_
     refine evo_op (st_stO (c := c_Point) (l := (List.set s1073.2.2 (Int.toNat x1463) x1598)) (i := (Int.toNat x1589)) (x := x1601) (x' := x1599) (v := (.agg [(vI x1599.X.A), (vI x1599.X.B), (vI x1599.Y.A), (vI x1599.Y.B)])) (agg := true) (sz := 4) (kk := (.top 1000000)) (e := 36) (off := 0) (J := []) (o := .row 36 [] (List.map c_Point (List.set (List.set s1073.2.2 (Int.toNat x1463) x1598) (Int.toNat x1589) x1599))) (by kernel_rfl) (by kernel_rfl) (by kernel_rfl) ((idxS hx1601).2) (by kernel_rfl) (by kernel_rfl) (by kernel_rfl)) ?_
     refine evo_endS (by kernel_rfl) (fun τ hτ => ?_)
     refine th_normalS hτ ⟨[(0, (.row (.top 1000000) 36)), (1, (vI a)), (4, (.fn 106 [])), (11, (vI x1463)), (12, (vI x1589))], [(1000000, .row 36 [] (List.map c_Point (List.set (List.set s1073.2.2 (Int.toNat x1463) x1598) (Int.toNat x1589) x1599)))]⟩ (here (by kernel_rfl)) ?_
     refine z3 3 ⟨[(0, (.row (.top 1000000) 36)), (1, (vI a)), (4, (.fn 106 [])), (11, (vI (iadd x1463 1))), (12, (vI x1589))], [(1000000, .row 36 [] (List.map c_Point (List.set (List.set s1073.2.2 (Int.toNat x1463) x1598) (Int.toNat x1589) x1599)))]⟩ (by kernel_rfl) ?_
     refine sem_region (by kernel_rfl) ?_
     refine z6 3 (by kernel_rfl) (fun τ hτ => ?_)
     refine bl_normal ?_
     obtain rfl := Option.some.inj h
     exact lk_nextS hτ (here (by kernel_rfl))
 ·intro x
  rfl
 ·intro τ hτ
  refine bl_hit (by kernel_rfl) ?_
  refine th_normalS hτ ⟨[(11, (vI x1602.1))], [(1000000, .row 36 [] (List.map c_Point x1602.2))]⟩ (here (by kernel_rfl)) ?_
  refine z8 2 ⟨[(10, (vI x1602.1))], [(1000000, .row 36 [] (List.map c_Point x1602.2))]⟩ (by kernel_rfl) (fun τ hτ => ?_)
  obtain rfl := Option.some.inj h
  exact rk_ret hτ [(10, (vI x1602.1))] (here (by kernel_rfl)) (by kernel_rfl)
theorem W.slices_partitionCmpFunc_api_Point__geom_comparePoints_ok {a : Int} {b : Int} {pivot : Int} {h0 : (List Point)} {r : Int × Bool × (List Point)} (h : slices_partitionCmpFunc_api_Point__geom_comparePoints a b pivot h0 = some r) : PC G.P 133 [(.row (.top 1000000) 36), (vI a), (vI b), (vI pivot), (.fn 106 [])] [(1000000, .row 36 [] (List.map c_Point h0))] (.tup [(vI r.1), (vB r.2.1)]) [(1000000, .row 36 [] (List.map c_Point r.2.2))] := by
 refine pc_of G (fn := Try.f133) Try.func133 (by kernel_rfl) (by kernel_rfl) (by kernel_rfl) (by kernel_rfl) (by kernel_rfl) ?_
 refine sem_set ⟨[(0, (.row (.top 1000000) 36)), (1, (vI a)), (2, (vI b)), (3, (vI pivot)), (4, (.fn 106 []))], [(1000000, .row 36 [] (List.map c_Point h0))]⟩ (by kernel_rfl) ?_
 refine z3 2 ⟨[(0, (.row (.top 1000000) 36)), (1, (vI a)), (2, (vI b)), (3, (vI pivot)), (4, (.fn 106 []))], [(1000000, .row 36 [] (List.map c_Point h0))]⟩ (by kernel_rfl) ?_
 refine sem_seq (by kernel_rfl) ?_
 refine sem_drawN [(13, [1000000])] [] [] [(2, [1000000]), (3, [1000000])] [] 14 (by kernel_rfl) (by kernel_rfl) (by kernel_rfl) ?_
 refine evd_run 6 (by kernel_rfl) ?_
 obtain ⟨x9, hx9, h⟩ := bindS h
 refine evd_val (by kernel_rfl) (st_idxO (c := c_Point) (l := h0) (i := pivot) (kd := .i64) (kk := (.top 1000000)) (e := 36) (sz := 4) (by kernel_rfl) (by kernel_rfl) hx9 rfl) (by kernel_rfl) (by kernel_rfl) ?_
 refine evd_val (by kernel_rfl) (st_ldO (c := c_Point) (l := h0) (i := (Int.toNat pivot)) (v := (.agg [(vI x9.X.A), (vI x9.X.B), (vI x9.Y.A), (vI x9.Y.B)])) (agg := true) (sz := 4) (kk := (.top 1000000)) (e := 36) (off := 0) (J := []) (by kernel_rfl) (by kernel_rfl) (by kernel_rfl) ((idxS hx9).2) (by kernel_rfl)) (by kernel_rfl) (by kernel_rfl) ?_
 refine evd_run 2 (by kernel_rfl) ?_
 obtain ⟨x10, hx10, h⟩ := bindS h
 refine evd_val (by kernel_rfl) (st_idxO (c := c_Point) (l := h0) (i := a) (kd := .i64) (kk := (.top 1000000)) (e := 36) (sz := 4) (by kernel_rfl) (by kernel_rfl) hx10 rfl) (by kernel_rfl) (by kernel_rfl) ?_
 refine evd_val (by kernel_rfl) (st_ldO (c := c_Point) (l := h0) (i := (Int.toNat a)) (v := (.agg [(vI x10.X.A), (vI x10.X.B), (vI x10.Y.A), (vI x10.Y.B)])) (agg := true) (sz := 4) (kk := (.top 1000000)) (e := 36) (off := 0) (J := []) (by kernel_rfl) (by kernel_rfl) (by kernel_rfl) ((idxS hx10).2) (by kernel_rfl)) (by kernel_rfl) (by kernel_rfl) ?_
 obtain ⟨x11, hx11, h⟩ := bindS h
 refine evd_val (by kernel_rfl) (st_idxO (c := c_Point) (l := h0) (i := a) (kd := .i64) (kk := (.top 1000000)) (e := 36) (sz := 4) (by kernel_rfl) (by kernel_rfl) hx11 rfl) (by kernel_rfl) (by kernel_rfl) ?_
 refine evd_set (by kernel_rfl) (st_stO (c := c_Point) (l := h0) (i := (Int.toNat a)) (x := x11) (x' := x9) (v := (.agg [(vI x9.X.A), (vI x9.X.B), (vI x9.Y.A), (vI x9.Y.B)])) (agg := true) (sz := 4) (kk := (.top 1000000)) (e := 36) (off := 0) (J := []) (o := .row 36 [] (List.map c_Point (List.set h0 (Int.toNat a) x9))) (by kernel_rfl) (by kernel_rfl) (by kernel_rfl) ((idxS hx11).2) (by kernel_rfl) (by kernel_rfl) (by kernel_rfl)) (by kernel_rfl) (by kernel_rfl) (by kernel_rfl) ?_
 refine evd_end (by kernel_rfl) ?_
 obtain ⟨x12, hx12, h⟩ := bindS h
 refine evo_op (st_idxO (c := c_Point) (l := (List.set h0 (Int.toNat a) x9)) (i := pivot) (kd := .i64) (kk := (.top 1000000)) (e := 36) (sz := 4) (by kernel_rfl) (by kernel_rfl) hx12 rfl) ?_
 refine evo_op (st_stO (c := c_Point) (l := (List.set h0 (Int.toNat a) x9)) (i := (Int.toNat pivot)) (x := x12) (x' := x10) (v := (.agg [(vI x10.X.A), (vI x10.X.B), (vI x10.Y.A), (vI x10.Y.B)])) (agg := true) (sz := 4) (kk := (.top 1000000)) (e := 36) (off := 0) (J := []) (o := .row 36 [] (List.map c_Point (List.set (List.set h0 (Int.toNat a) x9) (Int.toNat pivot) x10))) (by kernel_rfl) (by kernel_rfl) (by kernel_rfl) ((idxS hx12).2) (by kernel_rfl) (by kernel_rfl) (by kernel_rfl)) ?_
 refine evo_endS (by kernel_rfl) (fun τ hτ => ?_)
 refine th_normalS hτ ⟨[(0, (.row (.top 1000000) 36)), (1, (vI a)), (2, (vI b)), (4, (.fn 106 []))], [(1000000, .row 36 [] (List.map c_Point (List.set (List.set h0 (Int.toNat a) x9) (Int.toNat pivot) x10)))]⟩ (here (by kernel_rfl)) ?_
 refine z3 6 ⟨[(0, (.row (.top 1000000) 36)), (1, (vI a)), (4, (.fn 106 [])), (12, (vI (iadd a 1))), (13, (vI (isub b 1)))], [(1000000, .row 36 [] (List.map c_Point (List.set (List.set h0 (Int.toNat a) x9) (Int.toNat pivot) x10)))]⟩ (by kernel_rfl) ?_
 refine sem_seq (by kernel_rfl) ?_
 refine sem_block (by kernel_rfl) ?_
 obtain ⟨x138, hx138, h⟩ := bindS h
 refine sem_loopS (fun (s97 : Int) => ⟨[(0, (.row (.top 1000000) 36)), (1, (vI a)), (4, (.fn 106 [])), (12, (vI s97)), (13, (vI (isub b 1)))], [(1000000, .row 36 [] (List.map c_Point (List.set (List.set h0 (Int.toNat a) x9) (Int.toNat pivot) x10)))]⟩) (fun (x138 : Int) => (.exit 0, ⟨[(0, (.row (.top 1000000) 36)), (1, (vI a)), (4, (.fn 106 [])), (12, (vI x138)), (13, (vI (isub b 1)))], [(1000000, .row 36 [] (List.map c_Point (List.set (List.set h0 (Int.toNat a) x9) (Int.toNat pivot) x10)))]⟩)) (slices_partitionCmpFunc_api_Point__geom_comparePoints_l1 a b pivot h0 x9 x10) (iadd a 1) x138 (by kernel_rfl) (here (by kernel_rfl)) hx138 ?_ ?_ ?_
 ·intro s97 r h
  refine sem_seq (by kernel_rfl) ?_
  refine sem_seq (by kernel_rfl) ?_
  obtain ⟨j134, hj134, h⟩ := bindS h
  refine sem_drawP ⟨[(0, (.row (.top 1000000) 36)), (1, (vI a)), (4, (.fn 106 [])), (12, (vI s97)), (13, (vI (isub b 1))), (47, (vB j134))], [(1000000, .row 36 [] (List.map c_Point (List.set (List.set h0 (Int.toNat a) x9) (Int.toNat pivot) x10)))]⟩ [] [] [] [] [] 13 (by kernel_rfl) (by kernel_rfl) (by kernel_rfl) ?_ (fun τ hτ => ?_)
  ·replace h := hj134
   refine evd_run 4 (by kernel_rfl) ?_
   refine evd_split (decide (s97 ≤ (isub b 1))) (fun b0 => ⟨[(35, (vB b0)), (34, (vB b0)), (33, (vI (isub b 1))), (32, (vI s97)), (0, (.row (.top 1000000) 36)), (1, (vI a)), (4, (.fn 106 [])), (12, (vI s97)), (13, (vI (isub b 1)))], [(1000000, .row 36 [] (List.map c_Point (List.set (List.set h0 (Int.toNat a) x9) (Int.toNat pivot) x10)))]⟩) (by kernel_rfl) (fun hb => ?_) (fun hb => ?_)
   ·replace h := iteT hb h
    refine evd_run 3 (by kernel_rfl) ?_
    obtain ⟨x135, hx135, h⟩ := bindS h
    refine evd_val (by kernel_rfl) (st_idxO (c := c_Point) (l := (List.set (List.set h0 (Int.toNat a) x9) (Int.toNat pivot) x10)) (i := s97) (kd := .i64) (kk := (.top 1000000)) (e := 36) (sz := 4) (by kernel_rfl) (by kernel_rfl) hx135 rfl) (by kernel_rfl) (by kernel_rfl) ?_
    refine evd_val (by kernel_rfl) (st_ldO (c := c_Point) (l := (List.set (List.set h0 (Int.toNat a) x9) (Int.toNat pivot) x10)) (i := (Int.toNat s97)) (v := (.agg [(vI x135.X.A), (vI x135.X.B), (vI x135.Y.A), (vI x135.Y.B)])) (agg := true) (sz := 4) (kk := (.top 1000000)) (e := 36) (off := 0) (J := []) (by kernel_rfl) (by kernel_rfl) (by kernel_rfl) ((idxS hx135).2) (by kernel_rfl)) (by kernel_rfl) (by kernel_rfl) ?_
    refine evd_run 2 (by kernel_rfl) ?_
    obtain ⟨x136, hx136, h⟩ := bindS h
    refine evd_val (by kernel_rfl) (st_idxO (c := c_Point) (l := (List.set (List.set h0 (Int.toNat a) x9) (Int.toNat pivot) x10)) (i := a) (kd := .i64) (kk := (.top 1000000)) (e := 36) (sz := 4) (by kernel_rfl) (by kernel_rfl) hx136 rfl) (by kernel_rfl) (by kernel_rfl) ?_
    refine evd_val (by kernel_rfl) (st_ldO (c := c_Point) (l := (List.set (List.set h0 (Int.toNat a) x9) (Int.toNat pivot) x10)) (i := (Int.toNat a)) (v := (.agg [(vI x136.X.A), (vI x136.X.B), (vI x136.Y.A), (vI x136.Y.B)])) (agg := true) (sz := 4) (kk := (.top 1000000)) (e := 36) (off := 0) (J := []) (by kernel_rfl) (by kernel_rfl) (by kernel_rfl) ((idxS hx136).2) (by kernel_rfl)) (by kernel_rfl) (by kernel_rfl) ?_
    refine evd_end (by kernel_rfl) ?_
    obtain ⟨r137, hr137, h⟩ := bindS h
    refine evo_callP [] (by kernel_rfl) (W.geom_comparePoints_ok hr137) (by kernel_rfl) (.inl rfl) (by kernel_rfl) ?_
    refine evo_run 2 (by kernel_rfl) ?_
    refine evo_endS (by kernel_rfl) (fun τ hτ => ?_)
    obtain rfl := Option.some.inj h
    exact leafC hτ (here (by kernel_rfl))
   ·replace h := iteF hb h
    refine evd_run 9 (by kernel_rfl) ?_
    refine evd_end (by kernel_rfl) ?_
    refine evo_run 3 (by kernel_rfl) ?_
    refine evo_endS (by kernel_rfl) (fun τ hτ => ?_)
    obtain rfl := Option.some.inj h
    exact leafC hτ (here (by kernel_rfl))
  refine th_normalS hτ ⟨[(0, (.row (.top 1000000) 36)), (1, (vI a)), (4, (.fn 106 [])), (12, (vI s97)), (13, (vI (isub b 1))), (47, (vB j134))], [(1000000, .row 36 [] (List.map c_Point (List.set (List.set h0 (Int.toNat a) x9) (Int.toNat pivot) x10)))]⟩ (here (by kernel_rfl)) ?_
  refine sem_cond j134 (by kernel_rfl) (by kernel_rfl) (fun hb => ?_) (fun hb => ?_)
  ·replace h := iteT hb h
   refine z4 ⟨[(0, (.row (.top 1000000) 36)), (1, (vI a)), (4, (.fn 106 [])), (12, (vI s97)), (13, (vI (isub b 1)))], [(1000000, .row 36 [] (List.map c_Point (List.set (List.set h0 (Int.toNat a) x9) (Int.toNat pivot) x10)))]⟩ (by kernel_rfl) ?_
   refine sem_block (by kernel_rfl) ?_
   refine sem_region (by kernel_rfl) ?_
   refine z6 3 (by kernel_rfl) (fun τ hτ => ?_)
   refine bl_normal ?_
   obtain rfl := Option.some.inj h
   exact lk_nextS hτ (here (by kernel_rfl))
  ·replace h := iteF hb h
   refine sem_exitS 0 (by kernel_rfl) rfl (fun τ hτ => ?_)
   refine th_exit ?_
   obtain rfl := Option.some.inj h
   exact lk_outS hτ rfl (here (by kernel_rfl))
 ·intro x
  rfl
 ·intro τ hτ
  refine bl_hit (by kernel_rfl) ?_
  refine th_normalS hτ ⟨[(0, (.row (.top 1000000) 36)), (1, (vI a)), (4, (.fn 106 [])), (12, (vI x138)), (13, (vI (isub b 1)))], [(1000000, .row 36 [] (List.map c_Point (List.set (List.set h0 (Int.toNat a) x9) (Int.toNat pivot) x10)))]⟩ (here (by kernel_rfl)) ?_
  refine sem_seq (by kernel_rfl) ?_
  refine sem_block (by kernel_rfl) ?_
  obtain ⟨x264, hx264, h⟩ := bindS h
  refine sem_loopS (fun (s223 : Int) => ⟨[(0, (.row (.top 1000000) 36)), (1, (vI a)), (4, (.fn 106 [])), (12, (vI x138)), (13, (vI s223))], [(1000000, .row 36 [] (List.map c_Point (List.set (List.set h0 (Int.toNat a) x9) (Int.toNat pivot) x10)))]⟩) (fun (x264 : Int) => (.exit 2, ⟨[(0, (.row (.top 1000000) 36)), (1, (vI a)), (4, (.fn 106 [])), (12, (vI x138)), (13, (vI x264))], [(1000000, .row 36 [] (List.map c_Point (List.set (List.set h0 (Int.toNat a) x9) (Int.toNat pivot) x10)))]⟩)) (slices_partitionCmpFunc_api_Point__geom_comparePoints_l2 a pivot h0 x9 x10 x138) (isub b 1) x264 (by kernel_rfl) (here (by kernel_rfl)) hx264 ?_ ?_ ?_
  ·intro s223 r h
   refine sem_seq (by kernel_rfl) ?_
   refine sem_seq (by kernel_rfl) ?_
   obtain ⟨j260, hj260, h⟩ := bindS h
   refine sem_drawP ⟨[(0, (.row (.top 1000000) 36)), (1, (vI a)), (4, (.fn 106 [])), (12, (vI x138)), (13, (vI s223)), (66, (vB j260))], [(1000000, .row 36 [] (List.map c_Point (List.set (List.set h0 (Int.toNat a) x9) (Int.toNat pivot) x10)))]⟩ [] [] [] [] [] 13 (by kernel_rfl) (by kernel_rfl) (by kernel_rfl) ?_ (fun τ hτ => ?_)
   ·replace h := hj260
    refine evd_run 4 (by kernel_rfl) ?_
    refine evd_split (decide (x138 ≤ s223)) (fun b0 => ⟨[(53, (vB b0)), (52, (vB b0)), (51, (vI s223)), (50, (vI x138)), (0, (.row (.top 1000000) 36)), (1, (vI a)), (4, (.fn 106 [])), (12, (vI x138)), (13, (vI s223))], [(1000000, .row 36 [] (List.map c_Point (List.set (List.set h0 (Int.toNat a) x9) (Int.toNat pivot) x10)))]⟩) (by kernel_rfl) (fun hb => ?_) (fun hb => ?_)
    ·replace h := iteT hb h
     refine evd_run 3 (by kernel_rfl) ?_
     obtain ⟨x261, hx261, h⟩ := bindS h
     refine evd_val (by kernel_rfl) (st_idxO (c := c_Point) (l := (List.set (List.set h0 (Int.toNat a) x9) (Int.toNat pivot) x10)) (i := s223) (kd := .i64) (kk := (.top 1000000)) (e := 36) (sz := 4) (by kernel_rfl) (by kernel_rfl) hx261 rfl) (by kernel_rfl) (by kernel_rfl) ?_
     refine evd_val (by kernel_rfl) (st_ldO (c := c_Point) (l := (List.set (List.set h0 (Int.toNat a) x9) (Int.toNat pivot) x10)) (i := (Int.toNat s223)) (v := (.agg [(vI x261.X.A), (vI x261.X.B), (vI x261.Y.A), (vI x261.Y.B)])) (agg := true) (sz := 4) (kk := (.top 1000000)) (e := 36) (off := 0) (J := []) (by kernel_rfl) (by kernel_rfl) (by kernel_rfl) ((idxS hx261).2) (by kernel_rfl)) (by kernel_rfl) (by kernel_rfl) ?_
     refine evd_run 2 (by kernel_rfl) ?_
     obtain ⟨x262, hx262, h⟩ := bindS h
     refine evd_val (by kernel_rfl) (st_idxO (c := c_Point) (l := (List.set (List.set h0 (Int.toNat a) x9) (Int.toNat pivot) x10)) (i := a) (kd := .i64) (kk := (.top 1000000)) (e := 36) (sz := 4) (by kernel_rfl) (by kernel_rfl) hx262 rfl) (by kernel_rfl) (by kernel_rfl) ?_
     refine evd_val (by kernel_rfl) (st_ldO (c := c_Point) (l := (List.set (List.set h0 (Int.toNat a) x9) (Int.toNat pivot) x10)) (i := (Int.toNat a)) (v := (.agg [(vI x262.X.A), (vI x262.X.B), (vI x262.Y.A), (vI x262.Y.B)])) (agg := true) (sz := 4) (kk := (.top 1000000)) (e := 36) (off := 0) (J := []) (by kernel_rfl) (by kernel_rfl) (by kernel_rfl) ((idxS hx262).2) (by kernel_rfl)) (by kernel_rfl) (by kernel_rfl) ?_
     refine evd_end (by kernel_rfl) ?_
     obtain ⟨r263, hr263, h⟩ := bindS h
     refine evo_callP [] (by kernel_rfl) (W.geom_comparePoints_ok hr263) (by kernel_rfl) (.inl rfl) (by kernel_rfl) ?_
     refine evo_run 3 (by kernel_rfl) ?_
     refine evo_endS (by kernel_rfl) (fun τ hτ => ?_)
     obtain rfl := Option.some.inj h
     exact leafC hτ (here (by kernel_rfl))
    ·replace h := iteF hb h
     refine evd_run 9 (by kernel_rfl) ?_
     refine evd_end (by kernel_rfl) ?_
     refine evo_run 4 (by kernel_rfl) ?_
     refine evo_endS (by kernel_rfl) (fun τ hτ => ?_)
     obtain rfl := Option.some.inj h
     exact leafC hτ (here (by kernel_rfl))
   refine th_normalS hτ ⟨[(0, (.row (.top 1000000) 36)), (1, (vI a)), (4, (.fn 106 [])), (12, (vI x138)), (13, (vI s223)), (66, (vB j260))], [(1000000, .row 36 [] (List.map c_Point (List.set (List.set h0 (Int.toNat a) x9) (Int.toNat pivot) x10)))]⟩ (here (by kernel_rfl)) ?_
   refine sem_cond j260 (by kernel_rfl) (by kernel_rfl) (fun hb => ?_) (fun hb => ?_)
   ·replace h := iteT hb h
    refine z4 ⟨[(0, (.row (.top 1000000) 36)), (1, (vI a)), (4, (.fn 106 [])), (12, (vI x138)), (13, (vI s223))], [(1000000, .row 36 [] (List.map c_Point (List.set (List.set h0 (Int.toNat a) x9) (Int.toNat pivot) x10)))]⟩ (by kernel_rfl) ?_
    refine sem_block (by kernel_rfl) ?_
    refine sem_region (by kernel_rfl) ?_
    refine z6 3 (by kernel_rfl) (fun τ hτ => ?_)
    refine bl_normal ?_
    obtain rfl := Option.some.inj h
    exact lk_nextS hτ (here (by kernel_rfl))
   ·replace h := iteF hb h
    refine sem_exitS 2 (by kernel_rfl) rfl (fun τ hτ => ?_)
    refine th_exit ?_
    obtain rfl := Option.some.inj h
    exact lk_outS hτ rfl (here (by kernel_rfl))
  ·intro x
   rfl
  ·intro τ hτ
   refine bl_hit (by kernel_rfl) ?_
   refine th_normalS hτ ⟨[(0, (.row (.top 1000000) 36)), (1, (vI a)), (4, (.fn 106 [])), (12, (vI x138)), (13, (vI x264))], [(1000000, .row 36 [] (List.map c_Point (List.set (List.set h0 (Int.toNat a) x9) (Int.toNat pivot) x10)))]⟩ (here (by kernel_rfl)) ?_
   refine sem_seq (by kernel_rfl) ?_
   refine z3 3 ⟨[(0, (.row (.top 1000000) 36)), (1, (vI a)), (4, (.fn 106 [])), (12, (vI x138)), (13, (vI x264)), (71, (vB (decide (x138 > x264))))], [(1000000, .row 36 [] (List.map c_Point (List.set (List.set h0 (Int.toNat a) x9) (Int.toNat pivot) x10)))]⟩ (by kernel_rfl) ?_
   refine sem_cond (decide (x138 > x264)) (by kernel_rfl) (by kernel_rfl) (fun hb => ?_) (fun hb => ?_)
   ·replace h := iteT hb h
    refine sem_seq (by kernel_rfl) ?_
    refine sem_drawN [(13, [1000000])] [] [] [(2, [1000000]), (3, [1000000])] [] 14 (by kernel_rfl) (by kernel_rfl) (by kernel_rfl) ?_
    refine evd_run 6 (by kernel_rfl) ?_
    obtain ⟨x285, hx285, h⟩ := bindS h
    refine evd_val (by kernel_rfl) (st_idxO (c := c_Point) (l := (List.set (List.set h0 (Int.toNat a) x9) (Int.toNat pivot) x10)) (i := a) (kd := .i64) (kk := (.top 1000000)) (e := 36) (sz := 4) (by kernel_rfl) (by kernel_rfl) hx285 rfl) (by kernel_rfl) (by kernel_rfl) ?_
    refine evd_val (by kernel_rfl) (st_ldO (c := c_Point) (l := (List.set (List.set h0 (Int.toNat a) x9) (Int.toNat pivot) x10)) (i := (Int.toNat a)) (v := (.agg [(vI x285.X.A), (vI x285.X.B), (vI x285.Y.A), (vI x285.Y.B)])) (agg := true) (sz := 4) (kk := (.top 1000000)) (e := 36) (off := 0) (J := []) (by kernel_rfl) (by kernel_rfl) (by kernel_rfl) ((idxS hx285).2) (by kernel_rfl)) (by kernel_rfl) (by kernel_rfl) ?_
    refine evd_run 2 (by kernel_rfl) ?_
    obtain ⟨x286, hx286, h⟩ := bindS h
    refine evd_val (by kernel_rfl) (st_idxO (c := c_Point) (l := (List.set (List.set h0 (Int.toNat a) x9) (Int.toNat pivot) x10)) (i := x264) (kd := .i64) (kk := (.top 1000000)) (e := 36) (sz := 4) (by kernel_rfl) (by kernel_rfl) hx286 rfl) (by kernel_rfl) (by kernel_rfl) ?_
    refine evd_val (by kernel_rfl) (st_ldO (c := c_Point) (l := (List.set (List.set h0 (Int.toNat a) x9) (Int.toNat pivot) x10)) (i := (Int.toNat x264)) (v := (.agg [(vI x286.X.A), (vI x286.X.B), (vI x286.Y.A), (vI x286.Y.B)])) (agg := true) (sz := 4) (kk := (.top 1000000)) (e := 36) (off := 0) (J := []) (by kernel_rfl) (by kernel_rfl) (by kernel_rfl) ((idxS hx286).2) (by kernel_rfl)) (by kernel_rfl) (by kernel_rfl) ?_
    obtain ⟨x287, hx287, h⟩ := bindS h
    refine evd_val (by kernel_rfl) (st_idxO (c := c_Point) (l := (List.set (List.set h0 (Int.toNat a) x9) (Int.toNat pivot) x10)) (i := x264) (kd := .i64) (kk := (.top 1000000)) (e := 36) (sz := 4) (by kernel_rfl) (by kernel_rfl) hx287 rfl) (by kernel_rfl) (by kernel_rfl) ?_
    refine evd_set (by kernel_rfl) (st_stO (c := c_Point) (l := (List.set (List.set h0 (Int.toNat a) x9) (Int.toNat pivot) x10)) (i := (Int.toNat x264)) (x := x287) (x' := x285) (v := (.agg [(vI x285.X.A), (vI x285.X.B), (vI x285.Y.A), (vI x285.Y.B)])) (agg := true) (sz := 4) (kk := (.top 1000000)) (e := 36) (off := 0) (J := []) (o := .row 36 [] (List.map c_Point (List.set (List.set (List.set h0 (Int.toNat a) x9) (Int.toNat pivot) x10) (Int.toNat x264) x285))) (by kernel_rfl) (by kernel_rfl) (by kernel_rfl) ((idxS hx287).2) (by kernel_rfl) (by kernel_rfl) (by kernel_rfl)) (by kernel_rfl) (by kernel_rfl) (by kernel_rfl) ?_
    refine evd_end (by kernel_rfl) ?_
    obtain ⟨x288, hx288, h⟩ := bindS h
    refine evo_op (st_idxO (c := c_Point) (l := (List.set (List.set (List.set h0 (Int.toNat a) x9) (Int.toNat pivot) x10) (Int.toNat x264) x285)) (i := a) (kd := .i64) (kk := (.top 1000000)) (e := 36) (sz := 4) (by kernel_rfl) (by kernel_rfl) hx288 rfl) ?_
    refine evo_op (st_stO (c := c_Point) (l := (List.set (List.set (List.set h0 (Int.toNat a) x9) (Int.toNat pivot) x10) (Int.toNat x264) x285)) (i := (Int.toNat a)) (x := x288) (x' := x286) (v := (.agg [(vI x286.X.A), (vI x286.X.B), (vI x286.Y.A), (vI x286.Y.B)])) (agg := true) (sz := 4) (kk := (.top 1000000)) (e := 36) (off := 0) (J := []) (o := .row 36 [] (List.map c_Point (List.set (List.set (List.set (List.set h0 (Int.toNat a) x9) (Int.toNat pivot) x10) (Int.toNat x264) x285) (Int.toNat a) x286))) (by kernel_rfl) (by kernel_rfl) (by kernel_rfl) ((idxS hx288).2) (by kernel_rfl) (by kernel_rfl) (by kernel_rfl)) ?_
    refine evo_endS (by kernel_rfl) (fun τ hτ => ?_)
    refine th_normalS hτ ⟨[(13, (vI x264))], [(1000000, .row 36 [] (List.map c_Point (List.set (List.set (List.set (List.set h0 (Int.toNat a) x9) (Int.toNat pivot) x10) (Int.toNat x264) x285) (Int.toNat a) x286)))]⟩ (here (by kernel_rfl)) ?_
    refine z8 3 ⟨[(10, (vI x264)), (11, (vB true))], [(1000000, .row 36 [] (List.map c_Point (List.set (List.set (List.set (List.set h0 (Int.toNat a) x9) (Int.toNat pivot) x10) (Int.toNat x264) x285) (Int.toNat a) x286)))]⟩ (by kernel_rfl) (fun τ hτ => ?_)
    refine th_ret ?_
    obtain rfl := Option.some.inj h
    exact rk_ret hτ [(10, (vI x264)), (11, (vB true))] (here (by kernel_rfl)) (by kernel_rfl)
   ·replace h := iteF hb h
    refine z4 ⟨[(0, (.row (.top 1000000) 36)), (1, (vI a)), (4, (.fn 106 [])), (12, (vI x138)), (13, (vI x264))], [(1000000, .row 36 [] (List.map c_Point (List.set (List.set h0 (Int.toNat a) x9) (Int.toNat pivot) x10)))]⟩ (by kernel_rfl) ?_
    refine sem_seq (by kernel_rfl) ?_
    refine sem_drawN [(13, [1000000])] [] [] [(2, [1000000]), (3, [1000000])] [] 14 (by kernel_rfl) (by kernel_rfl) (by kernel_rfl) ?_
    refine evd_run 6 (by kernel_rfl) ?_
    obtain ⟨x297, hx297, h⟩ := bindS h
    refine evd_val (by kernel_rfl) (st_idxO (c := c_Point) (l := (List.set (List.set h0 (Int.toNat a) x9) (Int.toNat pivot) x10)) (i := x264) (kd := .i64) (kk := (.top 1000000)) (e := 36) (sz := 4) (by kernel_rfl) (by kernel_rfl) hx297 rfl) (by kernel_rfl) (by kernel_rfl) ?_
    refine evd_val (by kernel_rfl) (st_ldO (c := c_Point) (l := (List.set (List.set h0 (Int.toNat a) x9) (Int.toNat pivot) x10)) (i := (Int.toNat x264)) (v := (.agg [(vI x297.X.A), (vI x297.X.B), (vI x297.Y.A), (vI x297.Y.B)])) (agg := true) (sz := 4) (kk := (.top 1000000)) (e := 36) (off := 0) (J := []) (by kernel_rfl) (by kernel_rfl) (by kernel_rfl) ((idxS hx297).2) (by kernel_rfl)) (by kernel_rfl) (by kernel_rfl) ?_
    refine evd_run 2 (by kernel_rfl) ?_
    obtain ⟨x298, hx298, h⟩ := bindS h
    refine evd_val (by kernel_rfl) (st_idxO (c := c_Point) (l := (List.set (List.set h0 (Int.toNat a) x9) (Int.toNat pivot) x10)) (i := x138) (kd := .i64) (kk := (.top 1000000)) (e := 36) (sz := 4) (by kernel_rfl) (by kernel_rfl) hx298 rfl) (by kernel_rfl) (by kernel_rfl) ?_
    refine evd_val (by kernel_rfl) (st_ldO (c := c_Point) (l := (List.set (List.set h0 (Int.toNat a) x9) (Int.toNat pivot) x10)) (i := (Int.toNat x138)) (v := (.agg [(vI x298.X.A), (vI x298.X.B), (vI x298.Y.A), (vI x298.Y.B)])) (agg := true) (sz := 4) (kk := (.top 1000000)) (e := 36) (off := 0) (J := []) (by kernel_rfl) (by kernel_rfl) (by kernel_rfl) ((idxS hx298).2) (by kernel_rfl)) (by kernel_rfl) (by kernel_rfl) ?_
    obtain ⟨x299, hx299, h⟩ := bindS h
    refine evd_val (by kernel_rfl) (st_idxO (c := c_Point) (l := (List.set (List.set h0 (Int.toNat a) x9) (Int.toNat pivot) x10)) (i := x138) (kd := .i64) (kk := (.top 1000000)) (e := 36) (sz := 4) (by kernel_rfl) (by kernel_rfl) hx299 rfl) (by kernel_rfl) (by kernel_rfl) ?_
    refine evd_set (by kernel_rfl) (st_stO (c := c_Point) (l := (List.set (List.set h0 (Int.toNat a) x9) (Int.toNat pivot) x10)) (i := (Int.toNat x138)) (x := x299) (x' := x297) (v := (.agg [(vI x297.X.A), (vI x297.X.B), (vI x297.Y.A), (vI x297.Y.B)])) (agg := true) (sz := 4) (kk := (.top 1000000)) (e := 36) (off := 0) (J := []) (o := .row 36 [] (List.map c_Point (List.set (List.set (List.set h0 (Int.toNat a) x9) (Int.toNat pivot) x10) (Int.toNat x138) x297))) (by kernel_rfl) (by kernel_rfl) (by kernel_rfl) ((idxS hx299).2) (by kernel_rfl) (by kernel_rfl) (by kernel_rfl)) (by kernel_rfl) (by kernel_rfl) (by kernel_rfl) ?_
    refine evd_end (by kernel_rfl) ?_
    obtain ⟨x300, hx300, h⟩ := bindS h
    refine evo_op (st_idxO (c := c_Point) (l := (List.set (List.set (List.set h0 (Int.toNat a) x9) (Int.toNat pivot) x10) (Int.toNat x138) x297)) (i := x264) (kd := .i64) (kk := (.top 1000000)) (e := 36) (sz := 4) (by kernel_rfl) (by kernel_rfl) hx300 rfl) ?_
    refine evo_op (st_stO (c := c_Point) (l := (List.set (List.set (List.set h0 (Int.toNat a) x9) (Int.toNat pivot) x10) (Int.toNat x138) x297)) (i := (Int.toNat x264)) (x := x300) (x' := x298) (v := (.agg [(vI x298.X.A), (vI x298.X.B), (vI x298.Y.A), (vI x298.Y.B)])) (agg := true) (sz := 4) (kk := (.top 1000000)) (e := 36) (off := 0) (J := []) (o := .row 36 [] (List.map c_Point (List.set (List.set (List.set (List.set h0 (Int.toNat a) x9) (Int.toNat pivot) x10) (Int.toNat x138) x297) (Int.toNat x264) x298))) (by kernel_rfl) (by kernel_rfl) (by kernel_rfl) ((idxS hx300).2) (by kernel_rfl) (by kernel_rfl) (by kernel_rfl)) ?_
    refine evo_endS (by kernel_rfl) (fun τ hτ => ?_)
    refine th_normalS hτ ⟨[(0, (.row (.top 1000000) 36)), (1, (vI a)), (4, (.fn 106 [])), (12, (vI x138)), (13, (vI x264))], [(1000000, .row 36 [] (List.map c_Point (List.set (List.set (List.set (List.set h0 (Int.toNat a) x9) (Int.toNat pivot) x10) (Int.toNat x138) x297) (Int.toNat x264) x298)))]⟩ (here (by kernel_rfl)) ?_
    refine z3 3 ⟨[(0, (.row (.top 1000000) 36)), (1, (vI a)), (4, (.fn 106 [])), (12, (vI (iadd x138 1))), (13, (vI x264))], [(1000000, .row 36 [] (List.map c_Point (List.set (List.set (List.set (List.set h0 (Int.toNat a) x9) (Int.toNat pivot) x10) (Int.toNat x138) x297) (Int.toNat x264) x298)))]⟩ (by kernel_rfl) ?_
    refine z3 3 ⟨[(0, (.row (.top 1000000) 36)), (1, (vI a)), (4, (.fn 106 [])), (12, (vI (iadd x138 1))), (13, (vI (isub x264 1)))], [(1000000, .row 36 [] (List.map c_Point (List.set (List.set (List.set (List.set h0 (Int.toNat a) x9) (Int.toNat pivot) x10) (Int.toNat x138) x297) (Int.toNat x264) x298)))]⟩ (by kernel_rfl) ?_
    refine sem_seq (by kernel_rfl) ?_
    refine sem_block (by kernel_rfl) ?_
    obtain ⟨x1890, hx1890, h⟩ := bindS h
    refine sem_loopS (fun (s1361 : Int × Int × (List Point)) => ⟨[(0, (.row (.top 1000000) 36)), (1, (vI a)), (4, (.fn 106 [])), (12, (vI s1361.1)), (13, (vI s1361.2.1))], [(1000000, .row 36 [] (List.map c_Point s1361.2.2))]⟩) (fun (x1890 : Int × (List Point)) => (.exit 4, ⟨[(0, (.row (.top 1000000) 36)), (1, (vI a)), (13, (vI x1890.1))], [(1000000, .row 36 [] (List.map c_Point x1890.2))]⟩)) (slices_partitionCmpFunc_api_Point__geom_comparePoints_l5 a) ((iadd x138 1), (isub x264 1), (List.set (List.set (List.set (List.set h0 (Int.toNat a) x9) (Int.toNat pivot) x10) (Int.toNat x138) x297) (Int.toNat x264) x298)) x1890 (by kernel_rfl) (here (by kernel_rfl)) hx1890 ?_ ?_ ?_
    ·intro s1361 r h
     refine sem_block (by kernel_rfl) ?_
     refine sem_seq (by kernel_rfl) ?_
     refine sem_block (by kernel_rfl) ?_
     obtain ⟨x1751, hx1751, h⟩ := bindS h
     refine sem_loopS (fun (s1710 : Int) => ⟨[(0, (.row (.top 1000000) 36)), (1, (vI a)), (4, (.fn 106 [])), (12, (vI s1710)), (13, (vI s1361.2.1))], [(1000000, .row 36 [] (List.map c_Point s1361.2.2))]⟩) (fun (x1751 : Int) => (.exit 6, ⟨[(0, (.row (.top 1000000) 36)), (1, (vI a)), (4, (.fn 106 [])), (12, (vI x1751)), (13, (vI s1361.2.1))], [(1000000, .row 36 [] (List.map c_Point s1361.2.2))]⟩)) (slices_partitionCmpFunc_api_Point__geom_comparePoints_l3 a s1361) s1361.1 x1751 (by kernel_rfl) (here (by kernel_rfl)) hx1751 ?_ ?_ ?_
     ·intro s1710 r h
      refine sem_seq (by kernel_rfl) ?_
      refine sem_seq (by kernel_rfl) ?_
      obtain ⟨j1747, hj1747, h⟩ := bindS h
      refine sem_drawP ⟨[(0, (.row (.top 1000000) 36)), (1, (vI a)), (4, (.fn 106 [])), (12, (vI s1710)), (13, (vI s1361.2.1)), (120, (vB j1747))], [(1000000, .row 36 [] (List.map c_Point s1361.2.2))]⟩ [] [] [] [] [] 13 (by kernel_rfl) (by kernel_rfl) (by kernel_rfl) ?_ (fun τ hτ => ?_)
      ·replace h := hj1747
       refine evd_run 4 (by kernel_rfl) ?_
       refine evd_split (decide (s1710 ≤ s1361.2.1)) (fun b0 => ⟨[(108, (vB b0)), (107, (vB b0)), (106, (vI s1361.2.1)), (105, (vI s1710)), (0, (.row (.top 1000000) 36)), (1, (vI a)), (4, (.fn 106 [])), (12, (vI s1710)), (13, (vI s1361.2.1))], [(1000000, .row 36 [] (List.map c_Point s1361.2.2))]⟩) (by kernel_rfl) (fun hb => ?_) (fun hb => ?_)
       ·replace h := iteT hb h
        refine evd_run 3 (by kernel_rfl) ?_
        obtain ⟨x1748, hx1748, h⟩ := bindS h
        refine evd_val (by kernel_rfl) (st_idxO (c := c_Point) (l := s1361.2.2) (i := s1710) (kd := .i64) (kk := (.top 1000000)) (e := 36) (sz := 4) (by kernel_rfl) (by kernel_rfl) hx1748 rfl) (by kernel_rfl) (by kernel_rfl) ?_
        refine evd_val (by kernel_rfl) (st_ldO (c := c_Point) (l := s1361.2.2) (i := (Int.toNat s1710)) (v := (.agg [(vI x1748.X.A), (vI x1748.X.B), (vI x1748.Y.A), (vI x1748.Y.B)])) (agg := true) (sz := 4) (kk := (.top 1000000)) (e := 36) (off := 0) (J := []) (by kernel_rfl) (by kernel_rfl) (by kernel_rfl) ((idxS hx1748).2) (by kernel_rfl)) (by kernel_rfl) (by kernel_rfl) ?_
        refine evd_run 2 (by kernel_rfl) ?_
        obtain ⟨x1749, hx1749, h⟩ := bindS h
        refine evd_val (by kernel_rfl) (st_idxO (c := c_Point) (l := s1361.2.2) (i := a) (kd := .i64) (kk := (.top 1000000)) (e := 36) (sz := 4) (by kernel_rfl) (by kernel_rfl) hx1749 rfl) (by kernel_rfl) (by kernel_rfl) ?_
        refine evd_val (by kernel_rfl) (st_ldO (c := c_Point) (l := s1361.2.2) (i := (Int.toNat a)) (v := (.agg [(vI x1749.X.A), (vI x1749.X.B), (vI x1749.Y.A), (vI x1749.Y.B)])) (agg := true) (sz := 4) (kk := (.top 1000000)) (e := 36) (off := 0) (J := []) (by kernel_rfl) (by kernel_rfl) (by kernel_rfl) ((idxS hx1749).2) (by kernel_rfl)) (by kernel_rfl) (by kernel_rfl) ?_
        refine evd_end (by kernel_rfl) ?_
        obtain ⟨r1750, hr1750, h⟩ := bindS h
        refine evo_callP [] (by kernel_rfl) (W.geom_comparePoints_ok hr1750) (by kernel_rfl) (.inl rfl) (by kernel_rfl) ?_
        refine evo_run 2 (by kernel_rfl) ?_
        refine evo_endS (by kernel_rfl) (fun τ hτ => ?_)
        obtain rfl := Option.some.inj h
        exact leafC hτ (here (by kernel_rfl))
       ·replace h := iteF hb h
        refine evd_run 9 (by kernel_rfl) ?_
        refine evd_end (by kernel_rfl) ?_
        refine evo_run 3 (by kernel_rfl) ?_
        refine evo_endS (by kernel_rfl) (fun τ hτ => ?_)
        obtain rfl := Option.some.inj h
        exact leafC hτ (here (by kernel_rfl))
      refine th_normalS hτ ⟨[(0, (.row (.top 1000000) 36)), (1, (vI a)), (4, (.fn 106 [])), (12, (vI s1710)), (13, (vI s1361.2.1)), (120, (vB j1747))], [(1000000, .row 36 [] (List.map c_Point s1361.2.2))]⟩ (here (by kernel_rfl)) ?_
      refine sem_cond j1747 (by kernel_rfl) (by kernel_rfl) (fun hb => ?_) (fun hb => ?_)
      ·replace h := iteT hb h
       refine z4 ⟨[(0, (.row (.top 1000000) 36)), (1, (vI a)), (4, (.fn 106 [])), (12, (vI s1710)), (13, (vI s1361.2.1))], [(1000000, .row 36 [] (List.map c_Point s1361.2.2))]⟩ (by kernel_rfl) ?_
       refine sem_block (by kernel_rfl) ?_
       refine sem_region (by kernel_rfl) ?_
       refine z6 3 (by kernel_rfl) (fun τ hτ => ?_)
       refine bl_normal ?_
       obtain rfl := Option.some.inj h
       exact lk_nextS hτ (here (by kernel_rfl))
      ·replace h := iteF hb h
       refine sem_exitS 6 (by kernel_rfl) rfl (fun τ hτ => ?_)
       refine th_exit ?_
       obtain rfl := Option.some.inj h
       exact lk_outS hτ rfl (here (by kernel_rfl))
     ·intro x
      rfl
     ·intro τ hτ
      refine bl_hit (by kernel_rfl) ?_
      refine th_normalS hτ ⟨[(0, (.row (.top 1000000) 36)), (1, (vI a)), (4, (.fn 106 [])), (12, (vI x1751)), (13, (vI s1361.2.1))], [(1000000, .row 36 [] (List.map c_Point s1361.2.2))]⟩ (here (by kernel_rfl)) ?_
      refine sem_seq (by kernel_rfl) ?_
      refine sem_block (by kernel_rfl) ?_
      obtain ⟨x1877, hx1877, h⟩ := bindS h
      refine sem_loopS (fun (s1836 : Int) => ⟨[(0, (.row (.top 1000000) 36)), (1, (vI a)), (4, (.fn 106 [])), (12, (vI x1751)), (13, (vI s1836))], [(1000000, .row 36 [] (List.map c_Point s1361.2.2))]⟩) (fun (x1877 : Int) => (.exit 8, ⟨[(0, (.row (.top 1000000) 36)), (1, (vI a)), (4, (.fn 106 [])), (12, (vI x1751)), (13, (vI x1877))], [(1000000, .row 36 [] (List.map c_Point s1361.2.2))]⟩)) (slices_partitionCmpFunc_api_Point__geom_comparePoints_l4 a s1361 x1751) s1361.2.1 x1877 (by kernel_rfl) (here (by kernel_rfl)) hx1877 ?_ ?_ ?_
      ·intro s1836 r h
       refine sem_seq (by kernel_rfl) ?_
       refine sem_seq (by kernel_rfl) ?_
       obtain ⟨j1873, hj1873, h⟩ := bindS h
       refine sem_drawP ⟨[(0, (.row (.top 1000000) 36)), (1, (vI a)), (4, (.fn 106 [])), (12, (vI x1751)), (13, (vI s1836)), (139, (vB j1873))], [(1000000, .row 36 [] (List.map c_Point s1361.2.2))]⟩ [] [] [] [] [] 13 (by kernel_rfl) (by kernel_rfl) (by kernel_rfl) ?_ (fun τ hτ => ?_)
       ·replace h := hj1873
        refine evd_run 4 (by kernel_rfl) ?_
        refine evd_split (decide (x1751 ≤ s1836)) (fun b0 => ⟨[(126, (vB b0)), (125, (vB b0)), (124, (vI s1836)), (123, (vI x1751)), (0, (.row (.top 1000000) 36)), (1, (vI a)), (4, (.fn 106 [])), (12, (vI x1751)), (13, (vI s1836))], [(1000000, .row 36 [] (List.map c_Point s1361.2.2))]⟩) (by kernel_rfl) (fun hb => ?_) (fun hb => ?_)
        ·replace h := iteT hb h
         refine evd_run 3 (by kernel_rfl) ?_
         obtain ⟨x1874, hx1874, h⟩ := bindS h
         refine evd_val (by kernel_rfl) (st_idxO (c := c_Point) (l := s1361.2.2) (i := s1836) (kd := .i64) (kk := (.top 1000000)) (e := 36) (sz := 4) (by kernel_rfl) (by kernel_rfl) hx1874 rfl) (by kernel_rfl) (by kernel_rfl) ?_
         refine evd_val (by kernel_rfl) (st_ldO (c := c_Point) (l := s1361.2.2) (i := (Int.toNat s1836)) (v := (.agg [(vI x1874.X.A), (vI x1874.X.B), (vI x1874.Y.A), (vI x1874.Y.B)])) (agg := true) (sz := 4) (kk := (.top 1000000)) (e := 36) (off := 0) (J := []) (by kernel_rfl) (by kernel_rfl) (by kernel_rfl) ((idxS hx1874).2) (by kernel_rfl)) (by kernel_rfl) (by kernel_rfl) ?_
         refine evd_run 2 (by kernel_rfl) ?_
         obtain ⟨x1875, hx1875, h⟩ := bindS h
         refine evd_val (by kernel_rfl) (st_idxO (c := c_Point) (l := s1361.2.2) (i := a) (kd := .i64) (kk := (.top 1000000)) (e := 36) (sz := 4) (by kernel_rfl) (by kernel_rfl) hx1875 rfl) (by kernel_rfl) (by kernel_rfl) ?_
         refine evd_val (by kernel_rfl) (st_ldO (c := c_Point) (l := s1361.2.2) (i := (Int.toNat a)) (v := (.agg [(vI x1875.X.A), (vI x1875.X.B), (vI x1875.Y.A), (vI x1875.Y.B)])) (agg := true) (sz := 4) (kk := (.top 1000000)) (e := 36) (off := 0) (J := []) (by kernel_rfl) (by kernel_rfl) (by kernel_rfl) ((idxS hx1875).2) (by kernel_rfl)) (by kernel_rfl) (by kernel_rfl) ?_
         refine evd_end (by kernel_rfl) ?_
         obtain ⟨r1876, hr1876, h⟩ := bindS h
         refine evo_callP [] (by kernel_rfl) (W.geom_comparePoints_ok hr1876) (by kernel_rfl) (.inl rfl) (by kernel_rfl) ?_
         refine evo_run 3 (by kernel_rfl) ?_
         refine evo_endS (by kernel_rfl) (fun τ hτ => ?_)
         obtain rfl := Option.some.inj h
         exact leafC hτ (here (by kernel_rfl))
        ·replace h := iteF hb h
         refine evd_run 9 (by kernel_rfl) ?_
         refine evd_end (by kernel_rfl) ?_
         refine evo_run 4 (by kernel_rfl) ?_
         refine evo_endS (by kernel_rfl) (fun τ hτ => ?_)
         obtain rfl := Option.some.inj h
         exact leafC hτ (here (by kernel_rfl))
       refine th_normalS hτ ⟨[(0, (.row (.top 1000000) 36)), (1, (vI a)), (4, (.fn 106 [])), (12, (vI x1751)), (13, (vI s1836)), (139, (vB j1873))], [(1000000, .row 36 [] (List.map c_Point s1361.2.2))]⟩ (here (by kernel_rfl)) ?_
       refine sem_cond j1873 (by kernel_rfl) (by kernel_rfl) (fun hb => ?_) (fun hb => ?_)
       ·replace h := iteT hb h
        refine z4 ⟨[(0, (.row (.top 1000000) 36)), (1, (vI a)), (4, (.fn 106 [])), (12, (vI x1751)), (13, (vI s1836))], [(1000000, .row 36 [] (List.map c_Point s1361.2.2))]⟩ (by kernel_rfl) ?_
        refine sem_block (by kernel_rfl) ?_
        refine sem_region (by kernel_rfl) ?_
        refine z6 3 (by kernel_rfl) (fun τ hτ => ?_)
        refine bl_normal ?_
        obtain rfl := Option.some.inj h
        exact lk_nextS hτ (here (by kernel_rfl))
       ·replace h := iteF hb h
        refine sem_exitS 8 (by kernel_rfl) rfl (fun τ hτ => ?_)
        refine th_exit ?_
        obtain rfl := Option.some.inj h
        exact lk_outS hτ rfl (here (by kernel_rfl))
      ·intro x
       rfl
      ·intro τ hτ
       refine bl_hit (by kernel_rfl) ?_
       refine th_normalS hτ ⟨[(0, (.row (.top 1000000) 36)), (1, (vI a)), (4, (.fn 106 [])), (12, (vI x1751)), (13, (vI x1877))], [(1000000, .row 36 [] (List.map c_Point s1361.2.2))]⟩ (here (by kernel_rfl)) ?_
       refine sem_seq (by kernel_rfl) ?_
       refine z3 3 ⟨[(0, (.row (.top 1000000) 36)), (1, (vI a)), (4, (.fn 106 [])), (12, (vI x1751)), (13, (vI x1877)), (144, (vB (decide (x1751 > x1877))))], [(1000000, .row 36 [] (List.map c_Point s1361.2.2))]⟩ (by kernel_rfl) ?_
       refine sem_cond (decide (x1751 > x1877)) (by kernel_rfl) (by kernel_rfl) (fun hb => ?_) (fun hb => ?_)
       ·replace h := iteT hb h
        refine sem_exitS 4 (by kernel_rfl) rfl (fun τ hτ => ?_)
        refine th_exit ?_
        refine bl_miss (by kernel_rfl) ?_
        obtain rfl := Option.some.inj h
        exact lk_outS hτ rfl (here (by kernel_rfl))
       ·replace h := iteF hb h
        refine z4 ⟨[(0, (.row (.top 1000000) 36)), (1, (vI a)), (4, (.fn 106 [])), (12, (vI x1751)), (13, (vI x1877))], [(1000000, .row 36 [] (List.map c_Point s1361.2.2))]⟩ (by kernel_rfl) ?_
        refine sem_seq (by kernel_rfl) ?_
        refine sem_drawN [(13, [1000000])] [] [] [(2, [1000000]), (3, [1000000])] [] 14 (by kernel_rfl) (by kernel_rfl) (by kernel_rfl) ?_
        refine evd_run 6 (by kernel_rfl) ?_
        obtain ⟨x1886, hx1886, h⟩ := bindS h
        refine evd_val (by kernel_rfl) (st_idxO (c := c_Point) (l := s1361.2.2) (i := x1877) (kd := .i64) (kk := (.top 1000000)) (e := 36) (sz := 4) (by kernel_rfl) (by kernel_rfl) hx1886 rfl) (by kernel_rfl) (by kernel_rfl) ?_
        refine evd_val (by kernel_rfl) (st_ldO (c := c_Point) (l := s1361.2.2) (i := (Int.toNat x1877)) (v := (.agg [(vI x1886.X.A), (vI x1886.X.B), (vI x1886.Y.A), (vI x1886.Y.B)])) (agg := true) (sz := 4) (kk := (.top 1000000)) (e := 36) (off := 0) (J := []) (by kernel_rfl) (by kernel_rfl) (by kernel_rfl) ((idxS hx1886).2) (by kernel_rfl)) (by kernel_rfl) (by kernel_rfl) ?_
        refine evd_run 2 (by kernel_rfl) ?_
        obtain ⟨x1887, hx1887, h⟩ := bindS h
        refine evd_val (by kernel_rfl) (st_idxO (c := c_Point) (l := s1361.2.2) (i := x1751) (kd := .i64) (kk := (.top 1000000)) (e := 36) (sz := 4) (by kernel_rfl) (by kernel_rfl) hx1887 rfl) (by kernel_rfl) (by kernel_rfl) ?_
        refine evd_val (by kernel_rfl) (st_ldO (c := c_Point) (l := s1361.2.2) (i := (Int.toNat x1751)) (v := (.agg [(vI x1887.X.A), (vI x1887.X.B), (vI x1887.Y.A), (vI x1887.Y.B)])) (agg := true) (sz := 4) (kk := (.top 1000000)) (e := 36) (off := 0) (J := []) (by kernel_rfl) (by kernel_rfl) (by kernel_rfl) ((idxS hx1887).2) (by kernel_rfl)) (by kernel_rfl) (by kernel_rfl) ?_
        obtain ⟨x1888, hx1888, h⟩ := bindS h
        refine evd_val (by kernel_rfl) (st_idxO (c := c_Point) (l := s1361.2.2) (i := x1751) (kd := .i64) (kk := (.top 1000000)) (e := 36) (sz := 4) (by kernel_rfl) (by kernel_rfl) hx1888 rfl) (by kernel_rfl) (by kernel_rfl) ?_
        refine evd_set (by kernel_rfl) (st_stO (c := c_Point) (l := s1361.2.2) (i := (Int.toNat x1751)) (x := x1888) (x' := x1886) (v := (.agg [(vI x1886.X.A), (vI x1886.X.B), (vI x1886.Y.A), (vI x1886.Y.B)])) (agg := true) (sz := 4) (kk := (.top 1000000)) (e := 36) (off := 0) (J := []) (o := .row 36 [] (List.map c_Point (List.set s1361.2.2 (Int.toNat x1751) x1886))) (by kernel_rfl) (by kernel_rfl) (by kernel_rfl) ((idxS hx1888).2) (by kernel_rfl) (by kernel_rfl) (by kernel_rfl)) (by kernel_rfl) (by kernel_rfl) (by kernel_rfl) ?_
        refine evd_end (by kernel_rfl) ?_
        obtain ⟨x1889, hx1889, h⟩ := bindS h
        refine evo_op (st_idxO (c := c_Point) (l := (List.set s1361.2.2 (Int.toNat x1751) x1886)) (i := x1877) (kd := .i64) (kk := (.top 1000000)) (e := 36) (sz := 4) (by kernel_rfl) (by kernel_rfl) hx1889 rfl) ?_
        refine evo_op (st_stO (c := c_Point) (l := (List.set s1361.2.2 (Int.toNat x1751) x1886)) (i := (Int.toNat x1877)) (x := x1889) (x' := x1887) (v := (.agg [(vI x1887.X.A), (vI x1887.X.B), (vI x1887.Y.A), (vI x1887.Y.B)])) (agg := true) (sz := 4) (kk := (.top 1000000)) (e := 36) (off := 0) (J := []) (o := .row 36 [] (List.map c_Point (List.set (List.set s1361.2.2 (Int.toNat x1751) x1886) (Int.toNat x1877) x1887))) (by kernel_rfl) (by kernel_rfl) (by kernel_rfl) ((idxS hx1889).2) (by kernel_rfl) (by kernel_rfl) (by kernel_rfl)) ?_
        refine evo_endS (by kernel_rfl) (fun τ hτ => ?_)
        refine th_normalS hτ ⟨[(0, (.row (.top 1000000) 36)), (1, (vI a)), (4, (.fn 106 [])), (12, (vI x1751)), (13, (vI x1877))], [(1000000, .row 36 [] (List.map c_Point (List.set (List.set s1361.2.2 (Int.toNat x1751) x1886) (Int.toNat x1877) x1887)))]⟩ (here (by kernel_rfl)) ?_
        refine z3 3 ⟨[(0, (.row (.top 1000000) 36)), (1, (vI a)), (4, (.fn 106 [])), (12, (vI (iadd x1751 1))), (13, (vI x1877))], [(1000000, .row 36 [] (List.map c_Point (List.set (List.set s1361.2.2 (Int.toNat x1751) x1886) (Int.toNat x1877) x1887)))]⟩ (by kernel_rfl) ?_
        refine sem_region (by kernel_rfl) ?_
        refine z6 3 (by kernel_rfl) (fun τ hτ => ?_)
        refine bl_normal ?_
        obtain rfl := Option.some.inj h
        exact lk_nextS hτ (here (by kernel_rfl))
    ·intro x
     rfl
    ·intro τ hτ
     refine bl_hit (by kernel_rfl) ?_
     refine th_normalS hτ ⟨[(0, (.row (.top 1000000) 36)), (1, (vI a)), (13, (vI x1890.1))], [(1000000, .row 36 [] (List.map c_Point x1890.2))]⟩ (here (by kernel_rfl)) ?_
     refine sem_seq (by kernel_rfl) ?_
     refine sem_drawN [(13, [1000000])] [] [] [(2, [1000000]), (3, [1000000])] [] 14 (by kernel_rfl) (by kernel_rfl) (by kernel_rfl) ?_
     refine evd_run 6 (by kernel_rfl) ?_
     obtain ⟨x1899, hx1899, h⟩ := bindS h
     refine evd_val (by kernel_rfl) (st_idxO (c := c_Point) (l := x1890.2) (i := a) (kd := .i64) (kk := (.top 1000000)) (e := 36) (sz := 4) (by kernel_rfl) (by kernel_rfl) hx1899 rfl) (by kernel_rfl) (by kernel_rfl) ?_
     refine evd_val (by kernel_rfl) (st_ldO (c := c_Point) (l := x1890.2) (i := (Int.toNat a)) (v := (.agg [(vI x1899.X.A), (vI x1899.X.B), (vI x1899.Y.A), (vI x1899.Y.B)])) (agg := true) (sz := 4) (kk := (.top 1000000)) (e := 36) (off := 0) (J := []) (by kernel_rfl) (by kernel_rfl) (by kernel_rfl) ((idxS hx1899).2) (by kernel_rfl)) (by kernel_rfl) (by kernel_rfl) ?_
     refine evd_run 2 (by kernel_rfl) ?_
     obtain ⟨x1900, hx1900, h⟩ := bindS h
     refine evd_val (by kernel_rfl) (st_idxO (c := c_Point) (l := x1890.2) (i := x1890.1) (kd := .i64) (kk := (.top 1000000)) (e := 36) (sz := 4) (by kernel_rfl) (by kernel_rfl) hx1900 rfl) (by kernel_rfl) (by kernel_rfl) ?_
     refine evd_val (by kernel_rfl) (st_ldO (c := c_Point) (l := x1890.2) (i := (Int.toNat x1890.1)) (v := (.agg [(vI x1900.X.A), (vI x1900.X.B), (vI x1900.Y.A), (vI x1900.Y.B)])) (agg := true) (sz := 4) (kk := (.top 1000000)) (e := 36) (off := 0) (J := []) (by kernel_rfl) (by kernel_rfl) (by kernel_rfl) ((idxS hx1900).2) (by kernel_rfl)) (by kernel_rfl) (by kernel_rfl) ?_
     obtain ⟨x1901, hx1901, h⟩ := bindS h
     refine evd_val (by kernel_rfl) (st_idxO (c := c_Point) (l := x1890.2) (i := x1890.1) (kd := .i64) (kk := (.top 1000000)) (e := 36) (sz := 4) (by kernel_rfl) (by kernel_rfl) hx1901 rfl) (by kernel_rfl) (by kernel_rfl) ?_
     refine evd_set (by kernel_rfl) (st_stO (c := c_Point) (l := x1890.2) (i := (Int.toNat x1890.1)) (x := x1901) (x' := x1899) (v := (.agg [(vI x1899.X.A), (vI x1899.X.B), (vI x1899.Y.A), (vI x1899.Y.B)])) (agg := true) (sz := 4) (kk := (.top 1000000)) (e := 36) (off := 0) (J := []) (o := .row 36 [] (List.map c_Point (List.set x1890.2 (Int.toNat x1890.1) x1899))) (by kernel_rfl) (by kernel_rfl) (by kernel_rfl) ((idxS hx1901).2) (by kernel_rfl) (by kernel_rfl) (by kernel_rfl)) (by kernel_rfl) (by kernel_rfl) (by kernel_rfl) ?_
     refine evd_end (by kernel_rfl) ?_
     obtain ⟨x1902, hx1902, h⟩ := bindS h
     refine evo_op (st_idxO (c := c_Point) (l := (List.set x1890.2 (Int.toNat x1890.1) x1899)) (i := a) (kd := .i64) (kk := (.top 1000000)) (e := 36) (sz := 4) (by kernel_rfl) (by kernel_rfl) hx1902 rfl) ?_
     refine evo_op (st_stO (c := c_Point) (l := (List.set x1890.2 (Int.toNat x1890.1) x1899)) (i := (Int.toNat a)) (x := x1902) (x' := x1900) (v := (.agg [(vI x1900.X.A), (vI x1900.X.B), (vI x1900.Y.A), (vI x1900.Y.B)])) (agg := true) (sz := 4) (kk := (.top 1000000)) (e := 36) (off := 0) (J := []) (o := .row 36 [] (List.map c_Point (List.set (List.set x1890.2 (Int.toNat x1890.1) x1899) (Int.toNat a) x1900))) (by kernel_rfl) (by kernel_rfl) (by kernel_rfl) ((idxS hx1902).2) (by kernel_rfl) (by kernel_rfl) (by kernel_rfl)) ?_
     refine evo_endS (by kernel_rfl) (fun τ hτ => ?_)
     refine th_normalS hτ ⟨[(13, (vI x1890.1))], [(1000000, .row 36 [] (List.map c_Point (List.set (List.set x1890.2 (Int.toNat x1890.1) x1899) (Int.toNat a) x1900)))]⟩ (here (by kernel_rfl)) ?_
     refine z8 3 ⟨[(10, (vI x1890.1)), (11, (vB false))], [(1000000, .row 36 [] (List.map c_Point (List.set (List.set x1890.2 (Int.toNat x1890.1) x1899) (Int.toNat a) x1900)))]⟩ (by kernel_rfl) (fun τ hτ => ?_)
     obtain rfl := Option.some.inj h
     exact rk_ret hτ [(10, (vI x1890.1)), (11, (vB false))] (here (by kernel_rfl)) (by kernel_rfl)
theorem W.slices_pdqsortCmpFunc_api_Point__geom_comparePoints_body_ok (self : Int → Int → Int → (List Point) → Option ((List Point))) (hself : ∀ {a : Int} {b : Int} {limit : Int} {h0 : (List Point)} {r : (List Point)}, self a b limit h0 = some r → PC G.P 123 [(.row (.top 1000000) 36), (vI a), (vI b), (vI limit), (.fn 106 [])] [(1000000, .row 36 [] (List.map c_Point h0))] (.tup []) [(1000000, .row 36 [] (List.map c_Point r))]) {a : Int} {b : Int} {limit : Int} {h0 : (List Point)} {r : (List Point)} (h : slices_pdqsortCmpFunc_api_Point__geom_comparePoints_body self a b limit h0 = some r) : PC G.P 123 [(.row (.top 1000000) 36), (vI a), (vI b), (vI limit), (.fn 106 [])] [(1000000, .row 36 [] (List.map c_Point h0))] (.tup []) [(1000000, .row 36 [] (List.map c_Point r))] := by
 refine pc_of G (fn := Try.f123) Try.func123 (by kernel_rfl) (by kernel_rfl) (by kernel_rfl) (by kernel_rfl) (by kernel_rfl) ?_
 refine sem_set ⟨[(0, (.row (.top 1000000) 36)), (1, (vI a)), (2, (vI b)), (3, (vI limit)), (4, (.fn 106 []))], [(1000000, .row 36 [] (List.map c_Point h0))]⟩ (by kernel_rfl) ?_
 refine z3 1 ⟨[(0, (.row (.top 1000000) 36)), (1, (vI a)), (2, (vI b)), (3, (vI limit)), (4, (.fn 106 [])), (10, (vB true))], [(1000000, .row 36 [] (List.map c_Point h0))]⟩ (by kernel_rfl) ?_
 refine z3 1 ⟨[(0, (.row (.top 1000000) 36)), (1, (vI a)), (2, (vI b)), (3, (vI limit)), (4, (.fn 106 [])), (10, (vB true)), (11, (vB true))], [(1000000, .row 36 [] (List.map c_Point h0))]⟩ (by kernel_rfl) ?_
 refine sem_block (by kernel_rfl) ?_
 obtain ⟨x174, hx174, h⟩ := bindS h
 refine sem_loopS (fun (s59 : Int × Int × Int × Bool × Bool × (List Point)) => ⟨[(0, (.row (.top 1000000) 36)), (1, (vI s59.1)), (2, (vI s59.2.1)), (3, (vI s59.2.2.1)), (4, (.fn 106 [])), (10, (vB s59.2.2.2.1)), (11, (vB s59.2.2.2.2.1))], [(1000000, .row 36 [] (List.map c_Point s59.2.2.2.2.2))]⟩) (fun (x174 : (List Point)) => (.ret, ⟨[], [(1000000, .row 36 [] (List.map c_Point x174))]⟩)) (slices_pdqsortCmpFunc_api_Point__geom_comparePoints_l4 self) (a, b, limit, true, true, h0) x174 (by kernel_rfl) (here (by kernel_rfl)) hx174 ?_ ?_ ?_
 ·intro s59 r h
  refine sem_block (by kernel_rfl) ?_
  refine z3 4 ⟨[(0, (.row (.top 1000000) 36)), (1, (vI s59.1)), (2, (vI s59.2.1)), (3, (vI s59.2.2.1)), (4, (.fn 106 [])), (10, (vB s59.2.2.2.1)), (11, (vB s59.2.2.2.2.1)), (12, (vI (isub s59.2.1 s59.1)))], [(1000000, .row 36 [] (List.map c_Point s59.2.2.2.2.2))]⟩ (by kernel_rfl) ?_
  refine sem_seq (by kernel_rfl) ?_
  refine z3 2 ⟨[(0, (.row (.top 1000000) 36)), (1, (vI s59.1)), (2, (vI s59.2.1)), (3, (vI s59.2.2.1)), (4, (.fn 106 [])), (10, (vB s59.2.2.2.1)), (11, (vB s59.2.2.2.2.1)), (12, (vI (isub s59.2.1 s59.1))), (25, (vB (decide ((isub s59.2.1 s59.1) ≤ 12))))], [(1000000, .row 36 [] (List.map c_Point s59.2.2.2.2.2))]⟩ (by kernel_rfl) ?_
  refine sem_cond (decide ((isub s59.2.1 s59.1) ≤ 12)) (by kernel_rfl) (by kernel_rfl) (fun hb => ?_) (fun hb => ?_)
  ·replace h := iteT hb h
   refine z7 (by kernel_rfl) ?_
   refine evs_run 4 (by kernel_rfl) ?_
   obtain ⟨r120, hr120, h⟩ := bindS h
   refine evs_callS [(1000000, 1000000)] [] [] (by kernel_rfl) (W.slices_insertionSortCmpFunc_api_Point__geom_comparePoints_ok hr120) (by kernel_rfl) (by kernel_rfl) (.inl rfl) ?_
   refine evs_endS (by kernel_rfl) (fun τ hτ => ?_)
   refine th_normalS hτ ⟨[], [(1000000, .row 36 [] (List.map c_Point r120))]⟩ (here (by kernel_rfl)) ?_
   refine sem_retS (by kernel_rfl) (fun τ hτ => ?_)
   refine th_ret ?_
   refine bl_ret ?_
   obtain rfl := Option.some.inj h
   exact lk_outS hτ rfl (here (by kernel_rfl))
  ·replace h := iteF hb h
   refine z4 ⟨[(0, (.row (.top 1000000) 36)), (1, (vI s59.1)), (2, (vI s59.2.1)), (3, (vI s59.2.2.1)), (4, (.fn 106 [])), (10, (vB s59.2.2.2.1)), (11, (vB s59.2.2.2.2.1)), (12, (vI (isub s59.2.1 s59.1)))], [(1000000, .row 36 [] (List.map c_Point s59.2.2.2.2.2))]⟩ (by kernel_rfl) ?_
   refine sem_seq (by kernel_rfl) ?_
   refine z3 2 ⟨[(0, (.row (.top 1000000) 36)), (1, (vI s59.1)), (2, (vI s59.2.1)), (3, (vI s59.2.2.1)), (4, (.fn 106 [])), (10, (vB s59.2.2.2.1)), (11, (vB s59.2.2.2.2.1)), (12, (vI (isub s59.2.1 s59.1))), (32, (vB (s59.2.2.1 == 0)))], [(1000000, .row 36 [] (List.map c_Point s59.2.2.2.2.2))]⟩ (by kernel_rfl) ?_
   refine sem_cond (s59.2.2.1 == 0) (by kernel_rfl) (by kernel_rfl) (fun hb => ?_) (fun hb => ?_)
   ·replace h := iteT hb h
    refine z7 (by kernel_rfl) ?_
    refine evs_run 4 (by kernel_rfl) ?_
    obtain ⟨r124, hr124, h⟩ := bindS h
    refine evs_callS [(1000000, 1000000)] [] [] (by kernel_rfl) (W.slices_heapSortCmpFunc_api_Point__geom_comparePoints_ok hr124) (by kernel_rfl) (by kernel_rfl) (.inl rfl) ?_
    refine evs_endS (by kernel_rfl) (fun τ hτ => ?_)
    refine th_normalS hτ ⟨[], [(1000000, .row 36 [] (List.map c_Point r124))]⟩ (here (by kernel_rfl)) ?_
    refine sem_retS (by kernel_rfl) (fun τ hτ => ?_)
    refine th_ret ?_
    refine bl_ret ?_
    obtain rfl := Option.some.inj h
    exact lk_outS hτ rfl (here (by kernel_rfl))
   ·replace h := iteF hb h
    refine z4 ⟨[(0, (.row (.top 1000000) 36)), (1, (vI s59.1)), (2, (vI s59.2.1)), (3, (vI s59.2.2.1)), (4, (.fn 106 [])), (10, (vB s59.2.2.2.1)), (11, (vB s59.2.2.2.2.1)), (12, (vI (isub s59.2.1 s59.1)))], [(1000000, .row 36 [] (List.map c_Point s59.2.2.2.2.2))]⟩ (by kernel_rfl) ?_
    refine sem_seqJ (fun (j127 : Int × (List Point)) => ⟨[(0, (.row (.top 1000000) 36)), (1, (vI s59.1)), (2, (vI s59.2.1)), (3, (vI j127.1)), (4, (.fn 106 [])), (10, (vB s59.2.2.2.1)), (11, (vB s59.2.2.2.2.1)), (12, (vI (isub s59.2.1 s59.1)))], [(1000000, .row 36 [] (List.map c_Point j127.2))]⟩) (slices_pdqsortCmpFunc_api_Point__geom_comparePoints_k3 self s59) r (by kernel_rfl) (fun j127 h => ?_) ?_
    ·refine z7 (by kernel_rfl) ?_
     refine evs_run 4 (by kernel_rfl) ?_
     obtain ⟨r129, hr129, h⟩ := bindS h
     refine evs_callP [1000000] (by kernel_rfl) (W.slices_choosePivotCmpFunc_api_Point__geom_comparePoints_ok hr129) (by kernel_rfl) (.inr rfl) (by kernel_rfl) ?_
     refine z1 5 ⟨[(0, (.row (.top 1000000) 36)), (1, (vI s59.1)), (2, (vI s59.2.1)), (3, (vI j127.1)), (4, (.fn 106 [])), (10, (vB s59.2.2.2.1)), (11, (vB s59.2.2.2.2.1)), (12, (vI (isub s59.2.1 s59.1))), (13, (vI r129.1)), (14, (vI r129.2))], [(1000000, .row 36 [] (List.map c_Point j127.2))]⟩ (by kernel_rfl) ?_
     refine sem_seqJ (fun (j132 : Int × Int × (List Point)) => ⟨[(0, (.row (.top 1000000) 36)), (1, (vI s59.1)), (2, (vI s59.2.1)), (3, (vI j127.1)), (4, (.fn 106 [])), (10, (vB s59.2.2.2.1)), (11, (vB s59.2.2.2.2.1)), (12, (vI (isub s59.2.1 s59.1))), (13, (vI j132.1)), (14, (vI j132.2.1))], [(1000000, .row 36 [] (List.map c_Point j132.2.2))]⟩) (slices_pdqsortCmpFunc_api_Point__geom_comparePoints_k2 self s59 j127) r (by kernel_rfl) (fun j132 h => ?_) ?_
     ·refine sem_seqJ (fun (j136 : Bool × Bool × (List Point)) => ⟨[(0, (.row (.top 1000000) 36)), (1, (vI s59.1)), (2, (vI s59.2.1)), (3, (vI j127.1)), (4, (.fn 106 [])), (10, (vB j136.1)), (11, (vB j136.2.1)), (12, (vI (isub s59.2.1 s59.1))), (13, (vI j132.1))], [(1000000, .row 36 [] (List.map c_Point j136.2.2))]⟩) (slices_pdqsortCmpFunc_api_Point__geom_comparePoints_k1 self s59 j127 j132) r (by kernel_rfl) (fun j136 h => ?_) ?_
      ·refine sem_seq (by kernel_rfl) ?_
       refine sem_seq (by kernel_rfl) ?_
       obtain ⟨j155, hj155, h⟩ := bindS h
       refine sem_drawP ⟨[(0, (.row (.top 1000000) 36)), (1, (vI s59.1)), (2, (vI s59.2.1)), (3, (vI j127.1)), (4, (.fn 106 [])), (10, (vB j136.1)), (11, (vB j136.2.1)), (12, (vI (isub s59.2.1 s59.1))), (13, (vI j132.1)), (97, (vB j155))], [(1000000, .row 36 [] (List.map c_Point j136.2.2))]⟩ [] [] [] [] [] 13 (by kernel_rfl) (by kernel_rfl) (by kernel_rfl) ?_ (fun τ hτ => ?_)
       ·replace h := hj155
        refine evd_run 3 (by kernel_rfl) ?_
        refine evd_split (decide (s59.1 > 0)) (fun b0 => ⟨[(83, (vB b0)), (82, (vB b0)), (81, (vI s59.1)), (0, (.row (.top 1000000) 36)), (1, (vI s59.1)), (2, (vI s59.2.1)), (3, (vI j127.1)), (4, (.fn 106 [])), (10, (vB j136.1)), (11, (vB j136.2.1)), (12, (vI (isub s59.2.1 s59.1))), (13, (vI j132.1))], [(1000000, .row 36 [] (List.map c_Point j136.2.2))]⟩) (by kernel_rfl) (fun hb => ?_) (fun hb => ?_)
        ·replace h := iteT hb h
         refine evd_run 4 (by kernel_rfl) ?_
         obtain ⟨x156, hx156, h⟩ := bindS h
         refine evd_val (by kernel_rfl) (st_idxO (c := c_Point) (l := j136.2.2) (i := (isub s59.1 1)) (kd := .i64) (kk := (.top 1000000)) (e := 36) (sz := 4) (by kernel_rfl) (by kernel_rfl) hx156 rfl) (by kernel_rfl) (by kernel_rfl) ?_
         refine evd_val (by kernel_rfl) (st_ldO (c := c_Point) (l := j136.2.2) (i := (Int.toNat (isub s59.1 1))) (v := (.agg [(vI x156.X.A), (vI x156.X.B), (vI x156.Y.A), (vI x156.Y.B)])) (agg := true) (sz := 4) (kk := (.top 1000000)) (e := 36) (off := 0) (J := []) (by kernel_rfl) (by kernel_rfl) (by kernel_rfl) ((idxS hx156).2) (by kernel_rfl)) (by kernel_rfl) (by kernel_rfl) ?_
         refine evd_run 2 (by kernel_rfl) ?_
         obtain ⟨x157, hx157, h⟩ := bindS h
         refine evd_val (by kernel_rfl) (st_idxO (c := c_Point) (l := j136.2.2) (i := j132.1) (kd := .i64) (kk := (.top 1000000)) (e := 36) (sz := 4) (by kernel_rfl) (by kernel_rfl) hx157 rfl) (by kernel_rfl) (by kernel_rfl) ?_
         refine evd_val (by kernel_rfl) (st_ldO (c := c_Point) (l := j136.2.2) (i := (Int.toNat j132.1)) (v := (.agg [(vI x157.X.A), (vI x157.X.B), (vI x157.Y.A), (vI x157.Y.B)])) (agg := true) (sz := 4) (kk := (.top 1000000)) (e := 36) (off := 0) (J := []) (by kernel_rfl) (by kernel_rfl) (by kernel_rfl) ((idxS hx157).2) (by kernel_rfl)) (by kernel_rfl) (by kernel_rfl) ?_
         refine evd_end (by kernel_rfl) ?_
         obtain ⟨r158, hr158, h⟩ := bindS h
         refine evo_callP [] (by kernel_rfl) (W.geom_comparePoints_ok hr158) (by kernel_rfl) (.inl rfl) (by kernel_rfl) ?_
         refine evo_run 3 (by kernel_rfl) ?_
         refine evo_endS (by kernel_rfl) (fun τ hτ => ?_)
         obtain rfl := Option.some.inj h
         exact leafC hτ (here (by kernel_rfl))
        ·replace h := iteF hb h
         refine evd_run 10 (by kernel_rfl) ?_
         refine evd_end (by kernel_rfl) ?_
         refine evo_run 4 (by kernel_rfl) ?_
         refine evo_endS (by kernel_rfl) (fun τ hτ => ?_)
         obtain rfl := Option.some.inj h
         exact leafC hτ (here (by kernel_rfl))
       refine th_normalS hτ ⟨[(0, (.row (.top 1000000) 36)), (1, (vI s59.1)), (2, (vI s59.2.1)), (3, (vI j127.1)), (4, (.fn 106 [])), (10, (vB j136.1)), (11, (vB j136.2.1)), (12, (vI (isub s59.2.1 s59.1))), (13, (vI j132.1)), (97, (vB j155))], [(1000000, .row 36 [] (List.map c_Point j136.2.2))]⟩ (here (by kernel_rfl)) ?_
       refine sem_cond j155 (by kernel_rfl) (by kernel_rfl) (fun hb => ?_) (fun hb => ?_)
       ·replace h := iteT hb h
        refine z7 (by kernel_rfl) ?_
        refine evs_run 5 (by kernel_rfl) ?_
        obtain ⟨r160, hr160, h⟩ := bindS h
        refine evs_callS [(1000000, 1000000)] [] [] (by kernel_rfl) (W.slices_partitionEqualCmpFunc_api_Point__geom_comparePoints_ok hr160) (by kernel_rfl) (by kernel_rfl) (.inl rfl) ?_
        refine z1 1 ⟨[(0, (.row (.top 1000000) 36)), (2, (vI s59.2.1)), (3, (vI j127.1)), (4, (.fn 106 [])), (10, (vB j136.1)), (11, (vB j136.2.1)), (15, (vI r160.1))], [(1000000, .row 36 [] (List.map c_Point r160.2))]⟩ (by kernel_rfl) ?_
        refine z3 2 ⟨[(0, (.row (.top 1000000) 36)), (1, (vI r160.1)), (2, (vI s59.2.1)), (3, (vI j127.1)), (4, (.fn 106 [])), (10, (vB j136.1)), (11, (vB j136.2.1))], [(1000000, .row 36 [] (List.map c_Point r160.2))]⟩ (by kernel_rfl) ?_
        refine sem_exitS 1 (by kernel_rfl) rfl (fun τ hτ => ?_)
        refine th_exit ?_
        refine bl_hit (by kernel_rfl) ?_
        obtain rfl := Option.some.inj h
        exact lk_nextS hτ (here (by kernel_rfl))
       ·replace h := iteF hb h
        refine z4 ⟨[(0, (.row (.top 1000000) 36)), (1, (vI s59.1)), (2, (vI s59.2.1)), (3, (vI j127.1)), (4, (.fn 106 [])), (12, (vI (isub s59.2.1 s59.1))), (13, (vI j132.1))], [(1000000, .row 36 [] (List.map c_Point j136.2.2))]⟩ (by kernel_rfl) ?_
        refine z7 (by kernel_rfl) ?_
        refine evs_run 5 (by kernel_rfl) ?_
        obtain ⟨r162, hr162, h⟩ := bindS h
        refine evs_callS [(1000000, 1000000)] [] [] (by kernel_rfl) (W.slices_partitionCmpFunc_api_Point__geom_comparePoints_ok hr162) (by kernel_rfl) (by kernel_rfl) (.inl rfl) ?_
        refine z1 5 ⟨[(0, (.row (.top 1000000) 36)), (1, (vI s59.1)), (2, (vI s59.2.1)), (3, (vI j127.1)), (4, (.fn 106 [])), (12, (vI (isub s59.2.1 s59.1))), (16, (vI r162.1)), (17, (vB r162.2.1))], [(1000000, .row 36 [] (List.map c_Point r162.2.2))]⟩ (by kernel_rfl) ?_
        refine z3 2 ⟨[(0, (.row (.top 1000000) 36)), (1, (vI s59.1)), (2, (vI s59.2.1)), (3, (vI j127.1)), (4, (.fn 106 [])), (11, (vB r162.2.1)), (12, (vI (isub s59.2.1 s59.1))), (16, (vI r162.1))], [(1000000, .row 36 [] (List.map c_Point r162.2.2))]⟩ (by kernel_rfl) ?_
        refine z3 8 ⟨[(0, (.row (.top 1000000) 36)), (1, (vI s59.1)), (2, (vI s59.2.1)), (3, (vI j127.1)), (4, (.fn 106 [])), (11, (vB r162.2.1)), (12, (vI (isub s59.2.1 s59.1))), (16, (vI r162.1)), (18, (vI (isub r162.1 s59.1))), (19, (vI (isub s59.2.1 r162.1)))], [(1000000, .row 36 [] (List.map c_Point r162.2.2))]⟩ (by kernel_rfl) ?_
        refine z3 3 ⟨[(0, (.row (.top 1000000) 36)), (1, (vI s59.1)), (2, (vI s59.2.1)), (3, (vI j127.1)), (4, (.fn 106 [])), (11, (vB r162.2.1)), (16, (vI r162.1)), (18, (vI (isub r162.1 s59.1))), (19, (vI (isub s59.2.1 r162.1))), (20, (vI (iquo (isub s59.2.1 s59.1) 8)))], [(1000000, .row 36 [] (List.map c_Point r162.2.2))]⟩ (by kernel_rfl) ?_
        refine z3 3 ⟨[(0, (.row (.top 1000000) 36)), (1, (vI s59.1)), (2, (vI s59.2.1)), (3, (vI j127.1)), (4, (.fn 106 [])), (11, (vB r162.2.1)), (16, (vI r162.1)), (18, (vI (isub r162.1 s59.1))), (19, (vI (isub s59.2.1 r162.1))), (20, (vI (iquo (isub s59.2.1 s59.1) 8))), (125, (vB (decide ((isub r162.1 s59.1) < (isub s59.2.1 r162.1)))))], [(1000000, .row 36 [] (List.map c_Point r162.2.2))]⟩ (by kernel_rfl) ?_
        refine sem_cond (decide ((isub r162.1 s59.1) < (isub s59.2.1 r162.1))) (by kernel_rfl) (by kernel_rfl) (fun hb => ?_) (fun hb => ?_)
        ·replace h := iteT hb h
         refine z3 4 ⟨[(0, (.row (.top 1000000) 36)), (1, (vI s59.1)), (2, (vI s59.2.1)), (3, (vI j127.1)), (4, (.fn 106 [])), (10, (vB (decide ((isub r162.1 s59.1) ≥ (iquo (isub s59.2.1 s59.1) 8))))), (11, (vB r162.2.1)), (16, (vI r162.1))], [(1000000, .row 36 [] (List.map c_Point r162.2.2))]⟩ (by kernel_rfl) ?_
         refine z7 (by kernel_rfl) ?_
         refine evs_run 5 (by kernel_rfl) ?_
         obtain ⟨r164, hr164, h⟩ := bindS h
         refine evs_callS [(1000000, 1000000)] [] [] (by kernel_rfl) (hself hr164) (by kernel_rfl) (by kernel_rfl) (.inl rfl) ?_
         refine evs_endS (by kernel_rfl) (fun τ hτ => ?_)
         refine th_normalS hτ ⟨[(0, (.row (.top 1000000) 36)), (2, (vI s59.2.1)), (3, (vI j127.1)), (4, (.fn 106 [])), (10, (vB (decide ((isub r162.1 s59.1) ≥ (iquo (isub s59.2.1 s59.1) 8))))), (11, (vB r162.2.1)), (16, (vI r162.1))], [(1000000, .row 36 [] (List.map c_Point r164))]⟩ (here (by kernel_rfl)) ?_
         refine sem_region (by kernel_rfl) ?_
         refine z6 3 (by kernel_rfl) (fun τ hτ => ?_)
         refine bl_normal ?_
         obtain rfl := Option.some.inj h
         exact lk_nextS hτ (here (by kernel_rfl))
        ·replace h := iteF hb h
         refine z3 4 ⟨[(0, (.row (.top 1000000) 36)), (1, (vI s59.1)), (2, (vI s59.2.1)), (3, (vI j127.1)), (4, (.fn 106 [])), (10, (vB (decide ((isub s59.2.1 r162.1) ≥ (iquo (isub s59.2.1 s59.1) 8))))), (11, (vB r162.2.1)), (16, (vI r162.1))], [(1000000, .row 36 [] (List.map c_Point r162.2.2))]⟩ (by kernel_rfl) ?_
         refine z7 (by kernel_rfl) ?_
         refine evs_run 6 (by kernel_rfl) ?_
         obtain ⟨r166, hr166, h⟩ := bindS h
         refine evs_callS [(1000000, 1000000)] [] [] (by kernel_rfl) (hself hr166) (by kernel_rfl) (by kernel_rfl) (.inl rfl) ?_
         refine evs_endS (by kernel_rfl) (fun τ hτ => ?_)
         refine th_normalS hτ ⟨[(0, (.row (.top 1000000) 36)), (1, (vI s59.1)), (3, (vI j127.1)), (4, (.fn 106 [])), (10, (vB (decide ((isub s59.2.1 r162.1) ≥ (iquo (isub s59.2.1 s59.1) 8))))), (11, (vB r162.2.1)), (16, (vI r162.1))], [(1000000, .row 36 [] (List.map c_Point r166))]⟩ (here (by kernel_rfl)) ?_
         refine sem_region (by kernel_rfl) ?_
         refine z6 2 (by kernel_rfl) (fun τ hτ => ?_)
         refine bl_normal ?_
         obtain rfl := Option.some.inj h
         exact lk_nextS hτ (here (by kernel_rfl))
      refine sem_seq (by kernel_rfl) ?_
      obtain ⟨j167, hj167, h⟩ := bindS h
      refine sem_regionC ⟨[(0, (.row (.top 1000000) 36)), (1, (vI s59.1)), (2, (vI s59.2.1)), (3, (vI j127.1)), (4, (.fn 106 [])), (10, (vB j167.1)), (11, (vB j167.2.1)), (12, (vI (isub s59.2.1 s59.1))), (13, (vI j132.1)), (75, (vB j167.2.2))], [(1000000, .row 36 [] (List.map c_Point j132.2.2))]⟩ (by kernel_rfl) ?_ (fun τ hτ => ?_)
      ·replace h := hj167
       refine evs_run 2 (by kernel_rfl) ?_
       refine evs_split s59.2.2.2.1 (fun b0 => ⟨[(0, (.row (.top 1000000) 36)), (1, (vI s59.1)), (2, (vI s59.2.1)), (3, (vI j127.1)), (4, (.fn 106 [])), (10, (vB b0)), (11, (vB s59.2.2.2.2.1)), (12, (vI (isub s59.2.1 s59.1))), (13, (vI j132.1)), (14, (vI j132.2.1)), (69, (vB b0))], [(1000000, .row 36 [] (List.map c_Point j132.2.2))]⟩) (by kernel_rfl) (fun hb => ?_) (fun hb => ?_)
       ·replace h := iteT hb h
        refine evs_run 3 (by kernel_rfl) ?_
        refine evs_split s59.2.2.2.2.1 (fun b0 => ⟨[(0, (.row (.top 1000000) 36)), (1, (vI s59.1)), (2, (vI s59.2.1)), (3, (vI j127.1)), (4, (.fn 106 [])), (10, (vB true)), (11, (vB b0)), (12, (vI (isub s59.2.1 s59.1))), (13, (vI j132.1)), (14, (vI j132.2.1)), (70, (vB b0)), (72, (vB b0))], [(1000000, .row 36 [] (List.map c_Point j132.2.2))]⟩) (by kernel_rfl) (fun hb => ?_) (fun hb => ?_)
        ·replace h := iteT hb h
         refine z6 3 (by kernel_rfl) (fun τ hτ => ?_)
         obtain rfl := Option.some.inj h
         exact leafC hτ (here (by kernel_rfl))
        ·replace h := iteF hb h
         refine z6 3 (by kernel_rfl) (fun τ hτ => ?_)
         obtain rfl := Option.some.inj h
         exact leafC hτ (here (by kernel_rfl))
       ·replace h := iteF hb h
        refine z6 6 (by kernel_rfl) (fun τ hτ => ?_)
        obtain rfl := Option.some.inj h
        exact leafC hτ (here (by kernel_rfl))
      refine th_normalS hτ ⟨[(0, (.row (.top 1000000) 36)), (1, (vI s59.1)), (2, (vI s59.2.1)), (3, (vI j127.1)), (4, (.fn 106 [])), (10, (vB j167.1)), (11, (vB j167.2.1)), (12, (vI (isub s59.2.1 s59.1))), (13, (vI j132.1)), (75, (vB j167.2.2))], [(1000000, .row 36 [] (List.map c_Point j132.2.2))]⟩ (here (by kernel_rfl)) ?_
      refine sem_cond j167.2.2 (by kernel_rfl) (by kernel_rfl) (fun hb => ?_) (fun hb => ?_)
      ·replace h := iteT hb h
       refine z7 (by kernel_rfl) ?_
       refine evs_run 4 (by kernel_rfl) ?_
       obtain ⟨r169, hr169, h⟩ := bindS h
       refine evs_callS [(1000000, 1000000)] [] [] (by kernel_rfl) (W.slices_partialInsertionSortCmpFunc_api_Point__geom_comparePoints_ok hr169) (by kernel_rfl) (by kernel_rfl) (.inl rfl) ?_
       refine evs_endS (by kernel_rfl) (fun τ hτ => ?_)
       refine th_normalS hτ ⟨[(0, (.row (.top 1000000) 36)), (1, (vI s59.1)), (2, (vI s59.2.1)), (3, (vI j127.1)), (4, (.fn 106 [])), (10, (vB j167.1)), (11, (vB j167.2.1)), (12, (vI (isub s59.2.1 s59.1))), (13, (vI j132.1)), (80, (vB r169.1))], [(1000000, .row 36 [] (List.map c_Point r169.2))]⟩ (here (by kernel_rfl)) ?_
       refine sem_cond r169.1 (by kernel_rfl) (by kernel_rfl) (fun hb => ?_) (fun hb => ?_)
       ·replace h := iteT hb h
        refine sem_retS (by kernel_rfl) (fun τ hτ => ?_)
        refine jk_ret ?_
        refine bl_ret ?_
        obtain rfl := Option.some.inj h
        exact lk_outS hτ rfl (here (by kernel_rfl))
       ·replace h := iteF hb h
        refine sem_skipS (by kernel_rfl) (fun τ hτ => ?_)
        exact jk_normal (j167.1, j167.2.1, r169.2) h hτ (here (by kernel_rfl))
      ·replace h := iteF hb h
       refine sem_skipS (by kernel_rfl) (fun τ hτ => ?_)
       exact jk_normal (j167.1, j167.2.1, j132.2.2) h hτ (here (by kernel_rfl))
     refine z3 2 ⟨[(0, (.row (.top 1000000) 36)), (1, (vI s59.1)), (2, (vI s59.2.1)), (3, (vI j127.1)), (4, (.fn 106 [])), (10, (vB s59.2.2.2.1)), (11, (vB s59.2.2.2.2.1)), (12, (vI (isub s59.2.1 s59.1))), (13, (vI r129.1)), (14, (vI r129.2)), (56, (vB (r129.2 == 2)))], [(1000000, .row 36 [] (List.map c_Point j127.2))]⟩ (by kernel_rfl) ?_
     refine sem_cond (r129.2 == 2) (by kernel_rfl) (by kernel_rfl) (fun hb => ?_) (fun hb => ?_)
     ·replace h := iteT hb h
      refine z7 (by kernel_rfl) ?_
      refine evs_run 4 (by kernel_rfl) ?_
      obtain ⟨r171, hr171, h⟩ := bindS h
      refine evs_callS [(1000000, 1000000)] [] [] (by kernel_rfl) (W.slices_reverseRangeCmpFunc_api_Point__geom_comparePoints_ok hr171) (by kernel_rfl) (by kernel_rfl) (.inl rfl) ?_
      refine evs_endS (by kernel_rfl) (fun τ hτ => ?_)
      refine th_normalS hτ ⟨[(0, (.row (.top 1000000) 36)), (1, (vI s59.1)), (2, (vI s59.2.1)), (3, (vI j127.1)), (4, (.fn 106 [])), (10, (vB s59.2.2.2.1)), (11, (vB s59.2.2.2.2.1)), (12, (vI (isub s59.2.1 s59.1))), (13, (vI r129.1))], [(1000000, .row 36 [] (List.map c_Point r171))]⟩ (here (by kernel_rfl)) ?_
      refine z3 7 ⟨[(0, (.row (.top 1000000) 36)), (1, (vI s59.1)), (2, (vI s59.2.1)), (3, (vI j127.1)), (4, (.fn 106 [])), (10, (vB s59.2.2.2.1)), (11, (vB s59.2.2.2.2.1)), (12, (vI (isub s59.2.1 s59.1))), (13, (vI (isub (isub s59.2.1 1) (isub r129.1 s59.1))))], [(1000000, .row 36 [] (List.map c_Point r171))]⟩ (by kernel_rfl) ?_
      refine sem_region (by kernel_rfl) ?_
      refine z6 1 (by kernel_rfl) (fun τ hτ => ?_)
      exact jk_normal ((isub (isub s59.2.1 1) (isub r129.1 s59.1)), 1, r171) h hτ (here (by kernel_rfl))
     ·replace h := iteF hb h
      refine sem_skipS (by kernel_rfl) (fun τ hτ => ?_)
      exact jk_normal (r129.1, r129.2, j127.2) h hτ (here (by kernel_rfl))
    refine z3 2 ⟨[(0, (.row (.top 1000000) 36)), (1, (vI s59.1)), (2, (vI s59.2.1)), (3, (vI s59.2.2.1)), (4, (.fn 106 [])), (10, (vB s59.2.2.2.1)), (11, (vB s59.2.2.2.2.1)), (12, (vI (isub s59.2.1 s59.1))), (39, (vB (!s59.2.2.2.1)))], [(1000000, .row 36 [] (List.map c_Point s59.2.2.2.2.2))]⟩ (by kernel_rfl) ?_
    refine sem_cond (!s59.2.2.2.1) (by kernel_rfl) (by kernel_rfl) (fun hb => ?_) (fun hb => ?_)
    ·replace h := iteT hb h
     refine z7 (by kernel_rfl) ?_
     refine evs_run 4 (by kernel_rfl) ?_
     obtain ⟨r173, hr173, h⟩ := bindS h
     refine evs_callS [(1000000, 1000000)] [] [] (by kernel_rfl) (W.slices_breakPatternsCmpFunc_api_Point__geom_comparePoints_ok hr173) (by kernel_rfl) (by kernel_rfl) (.inl rfl) ?_
     refine evs_endS (by kernel_rfl) (fun τ hτ => ?_)
     refine th_normalS hτ ⟨[(0, (.row (.top 1000000) 36)), (1, (vI s59.1)), (2, (vI s59.2.1)), (3, (vI s59.2.2.1)), (4, (.fn 106 [])), (10, (vB s59.2.2.2.1)), (11, (vB s59.2.2.2.2.1)), (12, (vI (isub s59.2.1 s59.1)))], [(1000000, .row 36 [] (List.map c_Point r173))]⟩ (here (by kernel_rfl)) ?_
     refine sem_region (by kernel_rfl) ?_
     refine z6 3 (by kernel_rfl) (fun τ hτ => ?_)
     exact jk_normal ((isub s59.2.2.1 1), r173) h hτ (here (by kernel_rfl))
    ·replace h := iteF hb h
     refine sem_skipS (by kernel_rfl) (fun τ hτ => ?_)
     exact jk_normal (s59.2.2.1, s59.2.2.2.2.2) h hτ (here (by kernel_rfl))
 ·intro x
  rfl
 ·intro τ hτ
  refine bl_ret ?_
  obtain rfl := Option.some.inj h
  exact rk_ret hτ [] (here (by kernel_rfl)) (by kernel_rfl)
theorem W.slices_pdqsortCmpFunc_api_Point__geom_comparePoints_n_ok : ∀ (n : Nat) {a : Int} {b : Int} {limit : Int} {h0 : (List Point)} {r : (List Point)}, slices_pdqsortCmpFunc_api_Point__geom_comparePoints_n n a b limit h0 = some r → PC G.P 123 [(.row (.top 1000000) 36), (vI a), (vI b), (vI limit), (.fn 106 [])] [(1000000, .row 36 [] (List.map c_Point h0))] (.tup []) [(1000000, .row 36 [] (List.map c_Point r))]
  | 0, _, _, _, _, _, h => by simp [slices_pdqsortCmpFunc_api_Point__geom_comparePoints_n] at h
  | n + 1, _, _, _, _, _, h => W.slices_pdqsortCmpFunc_api_Point__geom_comparePoints_body_ok (slices_pdqsortCmpFunc_api_Point__geom_comparePoints_n n) (W.slices_pdqsortCmpFunc_api_Point__geom_comparePoints_n_ok n) h
theorem W.slices_pdqsortCmpFunc_api_Point__geom_comparePoints_ok {a : Int} {b : Int} {limit : Int} {h0 : (List Point)} {r : (List Point)} (h : slices_pdqsortCmpFunc_api_Point__geom_comparePoints a b limit h0 = some r) : PC G.P 123 [(.row (.top 1000000) 36), (vI a), (vI b), (vI limit), (.fn 106 [])] [(1000000, .row 36 [] (List.map c_Point h0))] (.tup []) [(1000000, .row 36 [] (List.map c_Point r))] := W.slices_pdqsortCmpFunc_api_Point__geom_comparePoints_n_ok 1000 h

theorem W.slices_SortFunc_Lapi_Point_api_Point__geom_comparePoints_ok {h0 : (List Point)} {r : (List Point)} (h : slices_SortFunc_Lapi_Point_api_Point__geom_comparePoints h0 = some r) : PC G.P 117 [(.row (.top 1000000) 36), (.fn 106 [])] [(1000000, .row 36 [] (List.map c_Point h0))] (.tup []) [(1000000, .row 36 [] (List.map c_Point r))] := by
 refine pc_of G (fn := Try.f117) Try.func117 (by kernel_rfl) (by kernel_rfl) (by kernel_rfl) (by kernel_rfl) (by kernel_rfl) ?_
 refine sem_set ⟨[(0, (.row (.top 1000000) 36)), (1, (.fn 106 []))], [(1000000, .row 36 [] (List.map c_Point h0))]⟩ (by kernel_rfl) ?_
 refine z7 (by kernel_rfl) ?_
 refine evs_run 1 (by kernel_rfl) ?_
 refine evs_op (st_len (c := c_Point) (l := h0) (x := (.row (.top 1000000) 36)) (by kernel_rfl) (by kernel_rfl)) ?_
 refine z1 1 ⟨[(0, (.row (.top 1000000) 36)), (1, (.fn 106 [])), (4, (vI (h0.length : Int)))], [(1000000, .row 36 [] (List.map c_Point h0))]⟩ (by kernel_rfl) ?_
 refine sem_region (by kernel_rfl) ?_
 refine evs_run 4 (by kernel_rfl) ?_
 obtain ⟨r3, hr3, h⟩ := bindS h
 refine evs_callP [] (by kernel_rfl) (W.bits_Len_ok hr3) (by kernel_rfl) (.inl rfl) (by kernel_rfl) ?_
 refine evs_run 1 (by kernel_rfl) ?_
 obtain ⟨r4, hr4, h⟩ := bindS h
 refine evs_callS [(1000000, 1000000)] [] [] (by kernel_rfl) (W.slices_pdqsortCmpFunc_api_Point__geom_comparePoints_ok hr4) (by kernel_rfl) (by kernel_rfl) (.inl rfl) ?_
 refine evs_endS (by kernel_rfl) (fun τ hτ => ?_)
 obtain rfl := Option.some.inj h
 exact rk_normal hτ [] (here (by kernel_rfl)) (by kernel_rfl)
theorem W.slices_Compact_Lapi_Point_api_Point_ok {h0 : (List Point)} {r : (List Point)} (h : slices_Compact_Lapi_Point_api_Point h0 = some r) : PC G.P 118 [(.row (.top 300000) 36)] [(300000, .row 36 [] (List.map c_Point h0))] (.row (.top 0) 36) [(0, .row 36 [] (List.map c_Point r))] := by
 refine pc_of G (fn := Try.f118) Try.func118 (by kernel_rfl) (by kernel_rfl) (by kernel_rfl) (by kernel_rfl) (by kernel_rfl) ?_
 refine sem_set ⟨[(0, (.row (.top 300000) 36))], [(300000, .row 36 [] (List.map c_Point h0))]⟩ (by kernel_rfl) ?_
 refine z3 1 ⟨[(0, (.row (.top 300000) 36))], [(300000, .row 36 [] (List.map c_Point h0))]⟩ (by kernel_rfl) ?_
 refine sem_seq (by kernel_rfl) ?_
 refine z7 (by kernel_rfl) ?_
 refine evs_run 1 (by kernel_rfl) ?_
 refine evs_op (st_len (c := c_Point) (l := h0) (x := (.row (.top 300000) 36)) (by kernel_rfl) (by kernel_rfl)) ?_
 refine z1 1 ⟨[(0, (.row (.top 300000) 36)), (8, (vB (decide ((h0.length : Int) < 2))))], [(300000, .row 36 [] (List.map c_Point h0))]⟩ (by kernel_rfl) ?_
 refine sem_cond (decide ((h0.length : Int) < 2)) (by kernel_rfl) (by kernel_rfl) (fun hb => ?_) (fun hb => ?_)
 ·replace h := iteT hb h
  refine z8 2 ⟨[(2, (.row (.top 300000) 36))], [(300000, .row 36 [] (List.map c_Point h0))]⟩ (by kernel_rfl) (fun τ hτ => ?_)
  refine th_ret ?_
  obtain rfl := Option.some.inj h
  exact rk_ret hτ [(2, (.row (.top 0) 36))] (subR_prep [] [(300000, 0)] (by kernel_rfl) rfl rfl (by kernel_rfl)) (by kernel_rfl)
 ·replace h := iteF hb h
  refine z4 ⟨[(0, (.row (.top 300000) 36))], [(300000, .row 36 [] (List.map c_Point h0))]⟩ (by kernel_rfl) ?_
  refine sem_seq (by kernel_rfl) ?_
  refine z3 1 ⟨[(0, (.row (.top 300000) 36)), (3, (vI 1))], [(300000, .row 36 [] (List.map c_Point h0))]⟩ (by kernel_rfl) ?_
  refine sem_block (by kernel_rfl) ?_
  obtain ⟨x1688, hx1688, h⟩ := bindS h
  refine sem_loopS (fun (s1127 : Int) => ⟨[(0, (.row (.top 500000) 36)), (3, (vI s1127))], [(500000, .row 36 [] (List.map c_Point h0))]⟩) (fun (x1688 : (List Point) ⊕ Unit) => match x1688 with | .inl j1689 => (.ret, ⟨[(2, (.row (.top 500000) 36))], [(500000, .row 36 [] (List.map c_Point j1689))]⟩) | .inr j1690 => (.exit 0, ⟨[(0, (.row (.top 500000) 36))], [(500000, .row 36 [] (List.map c_Point h0))]⟩)) (slices_Compact_Lapi_Point_api_Point_l3 h0) 1 x1688 (by kernel_rfl) (subR_prep [] [(300000, 500000)] (by kernel_rfl) rfl rfl (by kernel_rfl)) hx1688 ?_ ?_ ?_
  ·intro s1127 r h
   refine sem_seq (by kernel_rfl) ?_
   refine z7 (by kernel_rfl) ?_
   refine evs_run 2 (by kernel_rfl) ?_
   refine evs_op (st_len (c := c_Point) (l := h0) (x := (.row (.top 500000) 36)) (by kernel_rfl) (by kernel_rfl)) ?_
   refine z1 1 ⟨[(0, (.row (.top 500000) 36)), (3, (vI s1127)), (13, (vB (decide (s1127 < (h0.length : Int)))))], [(500000, .row 36 [] (List.map c_Point h0))]⟩ (by kernel_rfl) ?_
   refine sem_cond (decide (s1127 < (h0.length : Int))) (by kernel_rfl) (by kernel_rfl) (fun hb => ?_) (fun hb => ?_)
   ·replace h := iteT hb h
    refine z4 ⟨[(0, (.row (.top 500000) 36)), (3, (vI s1127))], [(500000, .row 36 [] (List.map c_Point h0))]⟩ (by kernel_rfl) ?_
    refine sem_seq (by kernel_rfl) ?_
    refine sem_block (by kernel_rfl) ?_
    refine sem_seq (by kernel_rfl) ?_
    refine sem_drawN [] [] [] [] [] 9 (by kernel_rfl) (by kernel_rfl) (by kernel_rfl) ?_
    refine evd_run 2 (by kernel_rfl) ?_
    obtain ⟨x1552, hx1552, h⟩ := bindS h
    refine evd_val (by kernel_rfl) (st_idxO (c := c_Point) (l := h0) (i := s1127) (kd := .i64) (kk := (.top 500000)) (e := 36) (sz := 4) (by kernel_rfl) (by kernel_rfl) hx1552 rfl) (by kernel_rfl) (by kernel_rfl) ?_
    refine evd_val (by kernel_rfl) (st_ldO (c := c_Point) (l := h0) (i := (Int.toNat s1127)) (v := (.agg [(vI x1552.X.A), (vI x1552.X.B), (vI x1552.Y.A), (vI x1552.Y.B)])) (agg := true) (sz := 4) (kk := (.top 500000)) (e := 36) (off := 0) (J := []) (by kernel_rfl) (by kernel_rfl) (by kernel_rfl) ((idxS hx1552).2) (by kernel_rfl)) (by kernel_rfl) (by kernel_rfl) ?_
    refine evd_run 3 (by kernel_rfl) ?_
    obtain ⟨x1553, hx1553, h⟩ := bindS h
    refine evd_val (by kernel_rfl) (st_idxO (c := c_Point) (l := h0) (i := (isub s1127 1)) (kd := .i64) (kk := (.top 500000)) (e := 36) (sz := 4) (by kernel_rfl) (by kernel_rfl) hx1553 rfl) (by kernel_rfl) (by kernel_rfl) ?_
    refine evd_val (by kernel_rfl) (st_ldO (c := c_Point) (l := h0) (i := (Int.toNat (isub s1127 1))) (v := (.agg [(vI x1553.X.A), (vI x1553.X.B), (vI x1553.Y.A), (vI x1553.Y.B)])) (agg := true) (sz := 4) (kk := (.top 500000)) (e := 36) (off := 0) (J := []) (by kernel_rfl) (by kernel_rfl) (by kernel_rfl) ((idxS hx1553).2) (by kernel_rfl)) (by kernel_rfl) (by kernel_rfl) ?_
    refine evd_end (by kernel_rfl) ?_
    refine evo_run 1 (by kernel_rfl) ?_
    refine evo_endS (by kernel_rfl) (fun τ hτ => ?_)
    refine th_normalS hτ ⟨[(0, (.row (.top 500000) 36)), (3, (vI s1127)), (25, (vB ((x1552.X.A == x1553.X.A) && ((x1552.X.B == x1553.X.B) && ((x1552.Y.A == x1553.Y.A) && ((x1552.Y.B == x1553.Y.B) && true))))))], [(500000, .row 36 [] (List.map c_Point h0))]⟩ (here (by kernel_rfl)) ?_
    refine sem_cond ((x1552.X.A == x1553.X.A) && ((x1552.X.B == x1553.X.B) && ((x1552.Y.A == x1553.Y.A) && ((x1552.Y.B == x1553.Y.B) && true)))) (by kernel_rfl) (by kernel_rfl) (fun hb => ?_) (fun hb => ?_)
    ·replace h := iteT hb h
     refine z7 (by kernel_rfl) ?_
     refine evs_run 2 (by kernel_rfl) ?_
     obtain ⟨hp2, h⟩ := iteN h
     refine evs_op (st_slPL (c := c_Point) (l := h0) (kk := (.top 500000)) (e := 36) (sz := 4) (lo := s1127) (k1 := .i64) (by kernel_rfl) (by kernel_rfl) (fun _ => rfl) hp2) ?_
     refine z1 1 ⟨[(0, (.row (.top 500000) 36)), (3, (vI s1127)), (4, (.part (.top 500000) 36 (Int.toNat s1127) (Int.toNat (h0.length : Int) - Int.toNat s1127)))], [(500000, .row 36 [] (List.map c_Point h0))]⟩ (by kernel_rfl) ?_
     refine sem_seq (by kernel_rfl) ?_
     refine z3 1 ⟨[(0, (.row (.top 500000) 36)), (3, (vI s1127)), (4, (.part (.top 500000) 36 (Int.toNat s1127) (Int.toNat (h0.length : Int) - Int.toNat s1127))), (5, (vI 1))], [(500000, .row 36 [] (List.map c_Point h0))]⟩ (by kernel_rfl) ?_
     refine sem_block (by kernel_rfl) ?_
     obtain ⟨x1685, hx1685, h⟩ := bindS h
     refine sem_loopS (fun (s1642 : Int × Int × (List Point)) => ⟨[(0, (.row (.top 500000) 36)), (3, (vI s1642.1)), (4, (.part (.top 500000) 36 (Int.toNat s1127) (Int.toNat (h0.length : Int) - Int.toNat s1127))), (5, (vI s1642.2.1))], [(500000, .row 36 [] (List.map c_Point s1642.2.2))]⟩) (fun (x1685 : Int × (List Point)) => (.exit 2, ⟨[(0, (.row (.top 500000) 36)), (3, (vI x1685.1))], [(500000, .row 36 [] (List.map c_Point x1685.2))]⟩)) (slices_Compact_Lapi_Point_api_Point_l2 h0 s1127) (s1127, 1, h0) x1685 (by kernel_rfl) (here (by kernel_rfl)) hx1685 ?_ ?_ ?_
     ·intro s1642 r h
      refine sem_seq (by kernel_rfl) ?_
      refine z7 (by kernel_rfl) ?_
      refine evs_run 2 (by kernel_rfl) ?_
      refine evs_op (st_lenP (kk := (.top 500000)) (e := 36) (lo := (Int.toNat s1127)) (n := (Int.toNat (h0.length : Int) - Int.toNat s1127)) (by kernel_rfl)) ?_
      refine z1 1 ⟨[(0, (.row (.top 500000) 36)), (3, (vI s1642.1)), (4, (.part (.top 500000) 36 (Int.toNat s1127) (Int.toNat (h0.length : Int) - Int.toNat s1127))), (5, (vI s1642.2.1)), (32, (vB (decide (s1642.2.1 < ((Int.toNat (h0.length : Int) - Int.toNat s1127 : Nat) : Int)))))], [(500000, .row 36 [] (List.map c_Point s1642.2.2))]⟩ (by kernel_rfl) ?_
      refine sem_cond (decide (s1642.2.1 < ((Int.toNat (h0.length : Int) - Int.toNat s1127 : Nat) : Int))) (by kernel_rfl) (by kernel_rfl) (fun hb => ?_) (fun hb => ?_)
      ·replace h := iteT hb h
       refine z4 ⟨[(0, (.row (.top 500000) 36)), (3, (vI s1642.1)), (4, (.part (.top 500000) 36 (Int.toNat s1127) (Int.toNat (h0.length : Int) - Int.toNat s1127))), (5, (vI s1642.2.1))], [(500000, .row 36 [] (List.map c_Point s1642.2.2))]⟩ (by kernel_rfl) ?_
       refine sem_seqJ (fun (j1674 : Int × (List Point)) => ⟨[(0, (.row (.top 500000) 36)), (3, (vI j1674.1)), (4, (.part (.top 500000) 36 (Int.toNat s1127) (Int.toNat (h0.length : Int) - Int.toNat s1127))), (5, (vI s1642.2.1))], [(500000, .row 36 [] (List.map c_Point j1674.2))]⟩) (slices_Compact_Lapi_Point_api_Point_k1 s1642) r (by kernel_rfl) (fun j1674 h => ?_) ?_
       ·refine sem_region (by kernel_rfl) ?_
        refine z6 3 (by kernel_rfl) (fun τ hτ => ?_)
        obtain rfl := Option.some.inj h
        exact lk_nextS hτ (here (by kernel_rfl))
       refine sem_block (by kernel_rfl) ?_
       refine sem_seq (by kernel_rfl) ?_
       refine sem_drawN [] [] [] [] [] 9 (by kernel_rfl) (by kernel_rfl) (by kernel_rfl) ?_
       refine evd_run 2 (by kernel_rfl) ?_
       obtain ⟨x1679, hx1679, h⟩ := bindS h
       refine evd_val (by kernel_rfl) (st_idxP (c := c_Point) (l := s1642.2.2) (i := s1642.2.1) (kd := .i64) (kk := (.top 500000)) (e := 36) (sz := 4) (lo := (Int.toNat s1127)) (n := (Int.toNat (h0.length : Int) - Int.toNat s1127)) (by kernel_rfl) (by kernel_rfl) hx1679 rfl) (by kernel_rfl) (by kernel_rfl) ?_
       refine evd_val (by kernel_rfl) (st_ldO (c := c_Point) (l := s1642.2.2) (i := ((Int.toNat s1127) + Int.toNat s1642.2.1)) (v := (.agg [(vI x1679.X.A), (vI x1679.X.B), (vI x1679.Y.A), (vI x1679.Y.B)])) (agg := true) (sz := 4) (kk := (.top 500000)) (e := 36) (off := 0) (J := []) (by kernel_rfl) (by kernel_rfl) (by kernel_rfl) (idx_part hx1679) (by kernel_rfl)) (by kernel_rfl) (by kernel_rfl) ?_
       refine evd_run 3 (by kernel_rfl) ?_
       obtain ⟨x1680, hx1680, h⟩ := bindS h
       refine evd_val (by kernel_rfl) (st_idxP (c := c_Point) (l := s1642.2.2) (i := (isub s1642.2.1 1)) (kd := .i64) (kk := (.top 500000)) (e := 36) (sz := 4) (lo := (Int.toNat s1127)) (n := (Int.toNat (h0.length : Int) - Int.toNat s1127)) (by kernel_rfl) (by kernel_rfl) hx1680 rfl) (by kernel_rfl) (by kernel_rfl) ?_
       refine evd_val (by kernel_rfl) (st_ldO (c := c_Point) (l := s1642.2.2) (i := ((Int.toNat s1127) + Int.toNat (isub s1642.2.1 1))) (v := (.agg [(vI x1680.X.A), (vI x1680.X.B), (vI x1680.Y.A), (vI x1680.Y.B)])) (agg := true) (sz := 4) (kk := (.top 500000)) (e := 36) (off := 0) (J := []) (by kernel_rfl) (by kernel_rfl) (by kernel_rfl) (idx_part hx1680) (by kernel_rfl)) (by kernel_rfl) (by kernel_rfl) ?_
       refine evd_end (by kernel_rfl) ?_
       refine evo_run 1 (by kernel_rfl) ?_
       refine evo_endS (by kernel_rfl) (fun τ hτ => ?_)
       refine th_normalS hτ ⟨[(0, (.row (.top 500000) 36)), (3, (vI s1642.1)), (4, (.part (.top 500000) 36 (Int.toNat s1127) (Int.toNat (h0.length : Int) - Int.toNat s1127))), (5, (vI s1642.2.1)), (44, (vB (!((x1679.X.A == x1680.X.A) && ((x1679.X.B == x1680.X.B) && ((x1679.Y.A == x1680.Y.A) && ((x1679.Y.B == x1680.Y.B) && true)))))))], [(500000, .row 36 [] (List.map c_Point s1642.2.2))]⟩ (here (by kernel_rfl)) ?_
       refine sem_cond (!((x1679.X.A == x1680.X.A) && ((x1679.X.B == x1680.X.B) && ((x1679.Y.A == x1680.Y.A) && ((x1679.Y.B == x1680.Y.B) && true))))) (by kernel_rfl) (by kernel_rfl) (fun hb => ?_) (fun hb => ?_)
       ·replace h := iteT hb h
        refine z7 (by kernel_rfl) ?_
        refine evs_run 4 (by kernel_rfl) ?_
        obtain ⟨x1683, hx1683, h⟩ := bindS h
        refine evs_op (st_idxP (c := c_Point) (l := s1642.2.2) (i := s1642.2.1) (kd := .i64) (kk := (.top 500000)) (e := 36) (sz := 4) (lo := (Int.toNat s1127)) (n := (Int.toNat (h0.length : Int) - Int.toNat s1127)) (by kernel_rfl) (by kernel_rfl) hx1683 rfl) ?_
        refine evs_op (st_ldO (c := c_Point) (l := s1642.2.2) (i := ((Int.toNat s1127) + Int.toNat s1642.2.1)) (v := (.agg [(vI x1683.X.A), (vI x1683.X.B), (vI x1683.Y.A), (vI x1683.Y.B)])) (agg := true) (sz := 4) (kk := (.top 500000)) (e := 36) (off := 0) (J := []) (by kernel_rfl) (by kernel_rfl) (by kernel_rfl) (idx_part hx1683) (by kernel_rfl)) ?_
        obtain ⟨x1684, hx1684, h⟩ := bindS h
        refine evs_op (st_idxO (c := c_Point) (l := s1642.2.2) (i := s1642.1) (kd := .i64) (kk := (.top 500000)) (e := 36) (sz := 4) (by kernel_rfl) (by kernel_rfl) hx1684 rfl) ?_
        refine evs_op (st_stO (c := c_Point) (l := s1642.2.2) (i := (Int.toNat s1642.1)) (x := x1684) (x' := x1683) (v := (.agg [(vI x1683.X.A), (vI x1683.X.B), (vI x1683.Y.A), (vI x1683.Y.B)])) (agg := true) (sz := 4) (kk := (.top 500000)) (e := 36) (off := 0) (J := []) (o := .row 36 [] (List.map c_Point (List.set s1642.2.2 (Int.toNat s1642.1) x1683))) (by kernel_rfl) (by kernel_rfl) (by kernel_rfl) ((idxS hx1684).2) (by kernel_rfl) (by kernel_rfl) (by kernel_rfl)) ?_
        refine evs_endS (by kernel_rfl) (fun τ hτ => ?_)
        refine th_normalS hτ ⟨[(0, (.row (.top 500000) 36)), (3, (vI s1642.1)), (4, (.part (.top 500000) 36 (Int.toNat s1127) (Int.toNat (h0.length : Int) - Int.toNat s1127))), (5, (vI s1642.2.1))], [(500000, .row 36 [] (List.map c_Point (List.set s1642.2.2 (Int.toNat s1642.1) x1683)))]⟩ (here (by kernel_rfl)) ?_
        refine sem_region (by kernel_rfl) ?_
        refine z6 3 (by kernel_rfl) (fun τ hτ => ?_)
        refine bl_normal ?_
        exact jk_normal ((iadd s1642.1 1), (List.set s1642.2.2 (Int.toNat s1642.1) x1683)) h hτ (here (by kernel_rfl))
       ·replace h := iteF hb h
        refine sem_skipS (by kernel_rfl) (fun τ hτ => ?_)
        refine bl_normal ?_
        exact jk_normal (s1642.1, s1642.2.2) h hτ (here (by kernel_rfl))
      ·replace h := iteF hb h
       refine sem_exitS 2 (by kernel_rfl) rfl (fun τ hτ => ?_)
       refine th_exit ?_
       obtain rfl := Option.some.inj h
       exact lk_outS hτ rfl (here (by kernel_rfl))
     ·intro x
      rfl
     ·intro τ hτ
      refine bl_hit (by kernel_rfl) ?_
      refine th_normalS hτ ⟨[(0, (.row (.top 500000) 36)), (3, (vI x1685.1))], [(500000, .row 36 [] (List.map c_Point x1685.2))]⟩ (here (by kernel_rfl)) ?_
      refine z7 (by kernel_rfl) ?_
      refine evs_run 2 (by kernel_rfl) ?_
      obtain ⟨hp2, h⟩ := iteN h
      refine evs_op (st_slPL (c := c_Point) (l := x1685.2) (kk := (.top 500000)) (e := 36) (sz := 4) (lo := x1685.1) (k1 := .i64) (by kernel_rfl) (by kernel_rfl) (fun _ => rfl) hp2) ?_
      refine evs_at (at_clear (c := c_Point) (l := x1685.2) (z := (Point.mk (Root.mk 0 0) (Root.mk 0 0))) (d := (.part (.top 500000) 36 (Int.toNat x1685.1) (Int.toNat (x1685.2.length : Int) - Int.toNat x1685.1))) (e := 36) (g := 500000) (lo := (Int.toNat x1685.1)) (n := (Int.toNat (x1685.2.length : Int) - Int.toNat x1685.1)) (zs := [(vI 0), (vI 0), (vI 0), (vI 0)]) (by kernel_rfl) (by kernel_rfl) (by kernel_rfl) (part_fit hp2) rfl) ?_
      refine evs_endS (by kernel_rfl) (fun τ hτ => ?_)
      refine th_normalS hτ ⟨[(0, (.row (.top 500000) 36)), (3, (vI x1685.1))], [(500000, .row 36 [] (List.map c_Point (cpy x1685.2 (Int.toNat x1685.1) (List.replicate (Int.toNat (x1685.2.length : Int) - Int.toNat x1685.1) (Point.mk (Root.mk 0 0) (Root.mk 0 0))))))]⟩ (here (by kernel_rfl)) ?_
      refine z7 (by kernel_rfl) ?_
      refine evs_run 2 (by kernel_rfl) ?_
      obtain ⟨l1687, hl1687, h⟩ := bindS h
      refine evs_at (at_cut (J := []) (c := c_Point) (l := (cpy x1685.2 (Int.toNat x1685.1) (List.replicate (Int.toNat (x1685.2.length : Int) - Int.toNat x1685.1) (Point.mk (Root.mk 0 0) (Root.mk 0 0))))) (e := 36) (g := 500000) (hi := x1685.1) (k2 := .i64) (by kernel_rfl) (by kernel_rfl) rfl hl1687) ?_
      refine z1 1 ⟨[(2, (.row (.top 500000) 36))], [(500000, .row 36 [] (List.map c_Point l1687))]⟩ (by kernel_rfl) ?_
      refine sem_retS (by kernel_rfl) (fun τ hτ => ?_)
      refine bl_ret ?_
      refine th_ret ?_
      obtain rfl := Option.some.inj h
      exact lk_outS hτ rfl (here (by kernel_rfl))
    ·replace h := iteF hb h
     refine sem_skipS (by kernel_rfl) (fun τ hτ => ?_)
     refine bl_normal ?_
     refine th_normalS hτ ⟨[(0, (.row (.top 500000) 36)), (3, (vI s1127))], [(500000, .row 36 [] (List.map c_Point h0))]⟩ (here (by kernel_rfl)) ?_
     refine sem_region (by kernel_rfl) ?_
     refine z6 3 (by kernel_rfl) (fun τ hτ => ?_)
     obtain rfl := Option.some.inj h
     exact lk_nextS hτ (here (by kernel_rfl))
   ·replace h := iteF hb h
    refine sem_exitS 0 (by kernel_rfl) rfl (fun τ hτ => ?_)
    refine th_exit ?_
    obtain rfl := Option.some.inj h
    exact lk_outS hτ rfl (here (by kernel_rfl))
  ·intro x
   rcases x with _ | _ <;> rfl
  ·intro τ hτ
   rcases x1688 with j1689 | j1690
   ·refine bl_ret ?_
    refine th_ret ?_
    obtain rfl := Option.some.inj h
    exact rk_ret hτ [(2, (.row (.top 0) 36))] (subR_prep [] [(500000, 0)] (by kernel_rfl) rfl rfl (by kernel_rfl)) (by kernel_rfl)
   ·refine bl_hit (by kernel_rfl) ?_
    refine th_normalS hτ ⟨[(0, (.row (.top 500000) 36))], [(500000, .row 36 [] (List.map c_Point h0))]⟩ (here (by kernel_rfl)) ?_
    refine z8 2 ⟨[(2, (.row (.top 500000) 36))], [(500000, .row 36 [] (List.map c_Point h0))]⟩ (by kernel_rfl) (fun τ hτ => ?_)
    obtain rfl := Option.some.inj h
    exact rk_ret hτ [(2, (.row (.top 0) 36))] (subR_prep [] [(500000, 0)] (by kernel_rfl) rfl rfl (by kernel_rfl)) (by kernel_rfl)
theorem W.geom_sorted_api_Point__geom_comparePoints_ok {l : (List Point)} {r : (List Point)} (h : geom_sorted_api_Point__geom_comparePoints l = some r) : PC G.P 105 [(.sl (List.map c_Point l)), (.fn 106 [])] [] (.row (.top 0) 36) [(0, .row 36 [] (List.map c_Point r))] := by
 refine pc_of G (fn := Try.f105) Try.func105 (by kernel_rfl) (by kernel_rfl) (by kernel_rfl) (by kernel_rfl) (by kernel_rfl) ?_
 refine sem_set ⟨[(0, (.sl (List.map c_Point l))), (1, (.fn 106 []))], []⟩ (by kernel_rfl) ?_
 refine z3 1 ⟨[(0, (.sl (List.map c_Point l))), (1, (.fn 106 []))], []⟩ (by kernel_rfl) ?_
 refine z7 (by kernel_rfl) ?_
 refine evs_run 1 (by kernel_rfl) ?_
 obtain ⟨r2, hr2, h⟩ := bindS h
 refine evs_callS [] [(0, 700050)] [] (by kernel_rfl) (W.slices_Clone_Lapi_Point_api_Point_ok hr2) (by kernel_rfl) (by kernel_rfl) (.inl rfl) ?_
 refine z1 1 ⟨[(1, (.fn 106 [])), (5, (.row (.top 700050) 36))], [(700050, .row 36 [] (List.map c_Point r2))]⟩ (by kernel_rfl) ?_
 refine z7 (by kernel_rfl) ?_
 refine evs_run 2 (by kernel_rfl) ?_
 obtain ⟨r4, hr4, h⟩ := bindS h
 refine evs_callS [(1000000, 700050)] [] [] (by kernel_rfl) (W.slices_SortFunc_Lapi_Point_api_Point__geom_comparePoints_ok hr4) (by kernel_rfl) (by kernel_rfl) (.inl rfl) ?_
 refine evs_endS (by kernel_rfl) (fun τ hτ => ?_)
 refine th_normalS hτ ⟨[(5, (.row (.top 700050) 36))], [(700050, .row 36 [] (List.map c_Point r4))]⟩ (here (by kernel_rfl)) ?_
 refine z7 (by kernel_rfl) ?_
 refine evs_run 1 (by kernel_rfl) ?_
 obtain ⟨r6, hr6, h⟩ := bindS h
 refine evs_callS [(300000, 700050)] [(0, 700051)] [] (by kernel_rfl) (W.slices_Compact_Lapi_Point_api_Point_ok hr6) (by kernel_rfl) (by kernel_rfl) (.inl rfl) ?_
 refine z1 1 ⟨[(4, (.row (.top 700051) 36))], [(700051, .row 36 [] (List.map c_Point r6))]⟩ (by kernel_rfl) ?_
 refine sem_retS (by kernel_rfl) (fun τ hτ => ?_)
 obtain rfl := Option.some.inj h
 exact rk_ret hτ [(4, (.row (.top 0) 36))] (subR_prep [] [(700051, 0)] (by kernel_rfl) rfl rfl (by kernel_rfl)) (by kernel_rfl)
end Go.Proofs.Ytiodkdpfkchkjaa
