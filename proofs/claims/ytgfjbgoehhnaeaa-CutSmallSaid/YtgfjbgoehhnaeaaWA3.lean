/- Each Go function does what its model says; written by a program out of the translation. -/
import Derived.Test.YtgfjbgoehhnaeaaWA2
import Derived.Test.YtgfjbgoehhnaeaaCaMA
set_option linter.unusedVariables false
set_option linter.unusedSimpArgs false
set_option linter.unusedSectionVars false
namespace Go.Proofs.Ytgfjbgoehhnaeaa
open Go Go.VI Go.SM Go.Proofs
set_option maxRecDepth 100000
set_option maxHeartbeats 4000000
theorem W.slices_Clone_Lbool_bool_ok {s r : (List Bool)} (h : slices_Clone_Lbool_bool s = some r) : PC G.P 59 [.sl (List.map cB s)] [] (.row (.top 0) 4) [(0, .row 4 [] (List.map cB r))] := by
 replace h : app [] s = some r := h
 refine pc_of G (fn := Try.f59) Try.func59 (by kernel_rfl) (by kernel_rfl) (by kernel_rfl) (by kernel_rfl) (by kernel_rfl) ?_
 refine z3 1 ⟨[(0, .sl (List.map cB s))], []⟩ (by kernel_rfl) ?_
 refine sem_seq (by kernel_rfl) ?_
 refine z7 (by kernel_rfl) ?_
 refine evs_run 1 (by kernel_rfl) ?_
 refine evs_isnil (es := List.map cB s) (by kernel_rfl) (fun hn => ?_) ?_
 ·obtain rfl : s = [] := List.map_eq_nil_iff.1 hn
  obtain rfl : [] = r := Option.some.inj ((app_eq (by simp [LIM])).symm.trans h)
  refine evs_endS (by kernel_rfl) (fun τ hτ => ?_)
  refine th_normalS hτ ⟨[(0, .sl (List.map cB [])), (4, vB true)], []⟩ (here (by kernel_rfl)) ?_
  refine sem_condT (by kernel_rfl) (by kernel_rfl) ?_
  refine z8 1 ⟨[(2, .row (.top 2) 4)], [(2, .row 4 [] (List.map cB []))]⟩ (by kernel_rfl) (fun τ hτ => ?_)
  refine th_ret ?_
  exact rk_ret hτ [(2, .row (.top 0) 4)] (subR_of [(2, 0)] rfl rfl (by kernel_rfl)) (by kernel_rfl)
 ·refine evs_endS (by kernel_rfl) (fun τ hτ => ?_)
  refine th_normalS hτ ⟨[(0, .sl (List.map cB s)), (4, vB false)], []⟩ (here (by kernel_rfl)) ?_
  refine sem_condF (by kernel_rfl) (by kernel_rfl) ?_
  refine z4 ⟨[(0, .sl (List.map cB s))], []⟩ (by kernel_rfl) ?_
  refine z7 (by kernel_rfl) ?_
  refine evs_at (at_build (es := List.map cB []) (e := 4) (d := 5) (by kernel_rfl)) ?_
  refine evs_run 1 (by kernel_rfl) ?_
  refine evs_op (st_app (c := cB) (l := []) (l2 := s) (x := .sl (List.map cB s)) (g := 5) (e := 4) (sz := 1) (d := 7) (by kernel_rfl) (by kernel_rfl) (by kernel_rfl) (by kernel_rfl) (fun _ => rfl) rfl h) ?_
  refine z1 1 ⟨[(2, .row (.top 5) 4)], [(5, .row 4 [] (List.map cB r))]⟩ (by kernel_rfl) ?_
  refine sem_retS (by kernel_rfl) (fun τ hτ => ?_)
  exact rk_ret hτ [(2, .row (.top 0) 4)] (subR_of [(5, 0)] rfl rfl (by kernel_rfl)) (by kernel_rfl)
theorem W.slices_Clone_Lint_int_ok {s r : (List Int)} (h : slices_Clone_Lint_int s = some r) : PC G.P 60 [.sl (List.map cI s)] [] (.row (.top 0) 3) [(0, .row 3 [] (List.map cI r))] := by
 replace h : app [] s = some r := h
 refine pc_of G (fn := Try.f60) Try.func60 (by kernel_rfl) (by kernel_rfl) (by kernel_rfl) (by kernel_rfl) (by kernel_rfl) ?_
 refine z3 1 ⟨[(0, .sl (List.map cI s))], []⟩ (by kernel_rfl) ?_
 refine sem_seq (by kernel_rfl) ?_
 refine z7 (by kernel_rfl) ?_
 refine evs_run 1 (by kernel_rfl) ?_
 refine evs_isnil (es := List.map cI s) (by kernel_rfl) (fun hn => ?_) ?_
 ·obtain rfl : s = [] := List.map_eq_nil_iff.1 hn
  obtain rfl : [] = r := Option.some.inj ((app_eq (by simp [LIM])).symm.trans h)
  refine evs_endS (by kernel_rfl) (fun τ hτ => ?_)
  refine th_normalS hτ ⟨[(0, .sl (List.map cI [])), (4, vB true)], []⟩ (here (by kernel_rfl)) ?_
  refine sem_condT (by kernel_rfl) (by kernel_rfl) ?_
  refine z8 1 ⟨[(2, .row (.top 2) 3)], [(2, .row 3 [] (List.map cI []))]⟩ (by kernel_rfl) (fun τ hτ => ?_)
  refine th_ret ?_
  exact rk_ret hτ [(2, .row (.top 0) 3)] (subR_of [(2, 0)] rfl rfl (by kernel_rfl)) (by kernel_rfl)
 ·refine evs_endS (by kernel_rfl) (fun τ hτ => ?_)
  refine th_normalS hτ ⟨[(0, .sl (List.map cI s)), (4, vB false)], []⟩ (here (by kernel_rfl)) ?_
  refine sem_condF (by kernel_rfl) (by kernel_rfl) ?_
  refine z4 ⟨[(0, .sl (List.map cI s))], []⟩ (by kernel_rfl) ?_
  refine z7 (by kernel_rfl) ?_
  refine evs_at (at_build (es := List.map cI []) (e := 3) (d := 5) (by kernel_rfl)) ?_
  refine evs_run 1 (by kernel_rfl) ?_
  refine evs_op (st_app (c := cI) (l := []) (l2 := s) (x := .sl (List.map cI s)) (g := 5) (e := 3) (sz := 1) (d := 7) (by kernel_rfl) (by kernel_rfl) (by kernel_rfl) (by kernel_rfl) (fun _ => rfl) rfl h) ?_
  refine z1 1 ⟨[(2, .row (.top 5) 3)], [(5, .row 3 [] (List.map cI r))]⟩ (by kernel_rfl) ?_
  refine sem_retS (by kernel_rfl) (fun τ hτ => ?_)
  exact rk_ret hτ [(2, .row (.top 0) 3)] (subR_of [(5, 0)] rfl rfl (by kernel_rfl)) (by kernel_rfl)
theorem W.cut_State_clone_k_ok {st : cut_State} {r : cut_State} (h : cut_State_clone_k st = some r) : PC G.P 43 [(.agg [(.sl (List.map cB st.Cut)), (.sl (List.map (cS cB) st.Holes)), (.sl (List.map cB st.Done)), (.sl (List.map cI st.Joints)), (.sl (List.map cB st.Fallen))])] [] (.agg [(.row (.top 1) 4), (.row (.top 2) 37), (.row (.top 3) 4), (.row (.top 4) 3), (.row (.top 5) 4)]) [(0, .box [(.row (.top 1) 4), (.row (.top 2) 37), (.row (.top 3) 4), (.row (.top 4) 3), (.row (.top 5) 4)]), (1, .row 4 [] (List.map cB r.Cut)), (2, .row 37 [] (List.map (cS cB) r.Holes)), (3, .row 4 [] (List.map cB r.Done)), (4, .row 3 [] (List.map cI r.Joints)), (5, .row 4 [] (List.map cB r.Fallen))] := by
 refine pc_of G (fn := Try.f43) Try.func43 (by kernel_rfl) (by kernel_rfl) (by kernel_rfl) (by kernel_rfl) (by kernel_rfl) ?_
 refine sem_set ⟨[(0, (.agg [(.sl (List.map cB st.Cut)), (.sl (List.map (cS cB) st.Holes)), (.sl (List.map cB st.Done)), (.sl (List.map cI st.Joints)), (.sl (List.map cB st.Fallen))]))], []⟩ (by kernel_rfl) ?_
 refine z3 2 ⟨[(1, (.ptr 1 0)), (2, (.ptr 2 0))], [(1, .box [(.sl (List.map cB st.Cut)), (.sl (List.map (cS cB) st.Holes)), (.sl (List.map cB st.Done)), (.sl (List.map cI st.Joints)), (.sl (List.map cB st.Fallen))]), (2, .box [.nl, .nl, .nl, .nl, .nl])]⟩ (by kernel_rfl) ?_
 refine sem_seq (by kernel_rfl) ?_
 refine sem_draw [(2, [700100]), (5, [700250]), (8, [700400]), (11, [700550]), (13, [3])] [(2, [700100]), (5, [700250]), (8, [700400]), (11, [700550]), (13, [3])] [] [(0, [3]), (1, [3]), (2, [3]), (3, [700100, 3]), (4, [700100, 3]), (5, [3]), (6, [700100, 700250, 3]), (7, [700100, 700250, 3]), (8, [3]), (9, [700100, 700250, 700400, 3]), (10, [700100, 700250, 700400, 3]), (11, [3]), (12, [3]), (13, [700100, 700250, 700400, 700550])] [(0, [700100, 700250, 700400, 700550, 3]), (1, [700100, 700250, 700400, 700550, 3]), (2, [700250, 700400, 700550, 3]), (3, [700100, 700250, 700400, 700550, 3]), (4, [700100, 700250, 700400, 700550, 3]), (5, [700400, 700550, 3]), (6, [700100, 700250, 700400, 700550, 3]), (7, [700100, 700250, 700400, 700550, 3]), (8, [700550, 3]), (9, [700100, 700250, 700400, 700550, 3]), (10, [700100, 700250, 700400, 700550, 3]), (11, [3]), (12, [3]), (13, [700100, 700250, 700400, 700550])] 14 (by kernel_rfl) (by kernel_rfl) [700100, 700250, 700400, 700550, 3] (by kernel_rfl) (by kernel_rfl) ?_
 refine evd_run 2 (by kernel_rfl) ?_
 obtain ⟨r9, hr9, h⟩ := bindS h
 refine evd_callS [(0, 700100)] [] (by kernel_rfl) (by kernel_rfl) (W.slices_Clone_Lbool_bool_ok hr9) (by kernel_rfl) (.inl rfl) (by kernel_rfl) (by kernel_rfl) ?_
 refine evd_run 2 (by kernel_rfl) ?_
 obtain ⟨r10, hr10, h⟩ := bindS h
 refine evd_callS [(0, 700250)] [] (by kernel_rfl) (by kernel_rfl) (W.slices_Clone_Lbool_bool_ok hr10) (by kernel_rfl) (.inl rfl) (by kernel_rfl) (by kernel_rfl) ?_
 refine evd_run 2 (by kernel_rfl) ?_
 obtain ⟨r11, hr11, h⟩ := bindS h
 refine evd_callS [(0, 700400)] [] (by kernel_rfl) (by kernel_rfl) (W.slices_Clone_Lint_int_ok hr11) (by kernel_rfl) (.inl rfl) (by kernel_rfl) (by kernel_rfl) ?_
 refine evd_run 2 (by kernel_rfl) ?_
 obtain ⟨r12, hr12, h⟩ := bindS h
 refine evd_callS [(0, 700550)] [] (by kernel_rfl) (by kernel_rfl) (W.slices_Clone_Lbool_bool_ok hr12) (by kernel_rfl) (.inl rfl) (by kernel_rfl) (by kernel_rfl) ?_
 refine evd_run 1 (by kernel_rfl) ?_
 refine evd_new (g := 3) (ob := .box [.nl, .nl, .nl, .nl, .nl]) (v := (.ptr 3 0)) (by kernel_rfl) (by kernel_rfl) (by kernel_rfl) (by kernel_rfl) (by kernel_rfl) (by kernel_rfl) ?_
 refine evd_end (by kernel_rfl) ?_
 refine evo_run 1 (by kernel_rfl) ?_
 refine evo_endS (by kernel_rfl) (fun τ hτ => ?_)
 refine th_normalS hτ ⟨[(1, (.ptr 1 0)), (2, (.ptr 2 0)), (3, (.ptr 3 0))], [(1, .box [(.sl (List.map cB st.Cut)), (.sl (List.map (cS cB) st.Holes)), (.sl (List.map cB st.Done)), (.sl (List.map cI st.Joints)), (.sl (List.map cB st.Fallen))]), (2, .box [.nl, .nl, .nl, .nl, .nl]), (3, .box [(.row (.top 700100) 4), .nl, (.row (.top 700250) 4), (.row (.top 700400) 3), (.row (.top 700550) 4)]), (700100, .row 4 [] (List.map cB r9)), (700250, .row 4 [] (List.map cB r10)), (700400, .row 3 [] (List.map cI r11)), (700550, .row 4 [] (List.map cB r12))]⟩ (here (by kernel_rfl)) ?_
 refine sem_seq (by kernel_rfl) ?_
 refine z7 (by kernel_rfl) ?_
 refine evs_run 2 (by kernel_rfl) ?_
 refine evs_op (st_len (c := (cS cB)) (l := st.Holes) (x := (.sl (List.map (cS cB) st.Holes))) (by kernel_rfl) (by kernel_rfl)) ?_
 refine z1 1 ⟨[(2, (.ptr 2 0)), (3, (.ptr 3 0)), (20, (.sl (List.map (cS cB) st.Holes))), (21, (vI (st.Holes.length : Int))), (22, (vI 0))], [(2, .box [.nl, .nl, .nl, .nl, .nl]), (3, .box [(.row (.top 700100) 4), .nl, (.row (.top 700250) 4), (.row (.top 700400) 3), (.row (.top 700550) 4)]), (700100, .row 4 [] (List.map cB r9)), (700250, .row 4 [] (List.map cB r10)), (700400, .row 3 [] (List.map cI r11)), (700550, .row 4 [] (List.map cB r12))]⟩ (by kernel_rfl) ?_
 refine sem_block (by kernel_rfl) ?_
 obtain ⟨x114, hx114, h⟩ := bindS h
 refine sem_loopS (fun (s81 : Int × (List (List Bool))) => ⟨[(2, (.ptr 500000 0)), (3, (.ptr 500001 0)), (20, (.sl (List.map (cS cB) st.Holes))), (21, (vI (st.Holes.length : Int))), (22, (vI s81.1))], [(500000, .box [.nl, .nl, .nl, .nl, .nl]), (500001, .box [(.row (.top 500002) 4), (.row (.top 500003) 37), (.row (.top 500004) 4), (.row (.top 500005) 3), (.row (.top 500006) 4)]), (500002, .row 4 [] (List.map cB r9)), (500003, .row 37 [] (List.map (cS cB) s81.2)), (500004, .row 4 [] (List.map cB r10)), (500005, .row 3 [] (List.map cI r11)), (500006, .row 4 [] (List.map cB r12))]⟩) (fun (x114 : (List (List Bool))) => (.exit 0, ⟨[(2, (.ptr 500000 0)), (3, (.ptr 500001 0))], [(500000, .box [.nl, .nl, .nl, .nl, .nl]), (500001, .box [(.row (.top 500002) 4), (.row (.top 500003) 37), (.row (.top 500004) 4), (.row (.top 500005) 3), (.row (.top 500006) 4)]), (500002, .row 4 [] (List.map cB r9)), (500003, .row 37 [] (List.map (cS cB) x114)), (500004, .row 4 [] (List.map cB r10)), (500005, .row 3 [] (List.map cI r11)), (500006, .row 4 [] (List.map cB r12))]⟩)) (cut_State_clone_k_l1 st) (0, []) x114 (by kernel_rfl) (subR_prep [.row (.box 3 1) 800000 37 []] [(2, 500000), (3, 500001), (700100, 500002), (700250, 500004), (700400, 500005), (700550, 500006), (800000, 500003)] (by kernel_rfl) rfl rfl (by kernel_rfl)) (iter_loop hx114) ?_ ?_ ?_
 ·intro s81 r h
  refine z3 1 ⟨[(2, (.ptr 500000 0)), (3, (.ptr 500001 0)), (20, (.sl (List.map (cS cB) st.Holes))), (21, (vI (st.Holes.length : Int))), (22, (vI s81.1)), (23, (vB (decide (s81.1 < (st.Holes.length : Int)))))], [(500000, .box [.nl, .nl, .nl, .nl, .nl]), (500001, .box [(.row (.top 500002) 4), (.row (.top 500003) 37), (.row (.top 500004) 4), (.row (.top 500005) 3), (.row (.top 500006) 4)]), (500002, .row 4 [] (List.map cB r9)), (500003, .row 37 [] (List.map (cS cB) s81.2)), (500004, .row 4 [] (List.map cB r10)), (500005, .row 3 [] (List.map cI r11)), (500006, .row 4 [] (List.map cB r12))]⟩ (by kernel_rfl) ?_
  refine sem_seq (by kernel_rfl) ?_
  refine sem_cond (decide (s81.1 < (st.Holes.length : Int))) (by kernel_rfl) (by kernel_rfl) (fun hb => ?_) (fun hb => ?_)
  ·replace h := iteT hb h
   refine z4 ⟨[(2, (.ptr 500000 0)), (3, (.ptr 500001 0)), (20, (.sl (List.map (cS cB) st.Holes))), (21, (vI (st.Holes.length : Int))), (22, (vI s81.1))], [(500000, .box [.nl, .nl, .nl, .nl, .nl]), (500001, .box [(.row (.top 500002) 4), (.row (.top 500003) 37), (.row (.top 500004) 4), (.row (.top 500005) 3), (.row (.top 500006) 4)]), (500002, .row 4 [] (List.map cB r9)), (500003, .row 37 [] (List.map (cS cB) s81.2)), (500004, .row 4 [] (List.map cB r10)), (500005, .row 3 [] (List.map cI r11)), (500006, .row 4 [] (List.map cB r12))]⟩ (by kernel_rfl) ?_
   refine sem_seq (by kernel_rfl) ?_
   refine sem_block (by kernel_rfl) ?_
   refine z7 (by kernel_rfl) ?_
   obtain ⟨x107, hx107, h⟩ := bindS h
   refine evs_op (st_idx (c := (cS cB)) (l := st.Holes) (i := s81.1) (kd := .i64) (sz := 1) (by kernel_rfl) hx107 rfl) ?_
   refine z1 2 ⟨[(2, (.ptr 500000 0)), (3, (.ptr 500001 0)), (5, (.sl (List.map cB x107))), (20, (.sl (List.map (cS cB) st.Holes))), (21, (vI (st.Holes.length : Int))), (22, (vI s81.1))], [(500000, .box [.nl, .nl, .nl, .nl, .nl]), (500001, .box [(.row (.top 500002) 4), (.row (.top 500003) 37), (.row (.top 500004) 4), (.row (.top 500005) 3), (.row (.top 500006) 4)]), (500002, .row 4 [] (List.map cB r9)), (500003, .row 37 [] (List.map (cS cB) s81.2)), (500004, .row 4 [] (List.map cB r10)), (500005, .row 3 [] (List.map cI r11)), (500006, .row 4 [] (List.map cB r12))]⟩ (by kernel_rfl) ?_
   refine sem_drawN [] [] [] [] [] 5 (by kernel_rfl) (by kernel_rfl) (by kernel_rfl) ?_
   refine evd_run 3 (by kernel_rfl) ?_
   obtain ⟨r112, hr112, h⟩ := bindS h
   refine evd_callS [] [] (by kernel_rfl) (by kernel_rfl) (pc_frz (by decide) (W.slices_Clone_Lbool_bool_ok hr112)) (by kernel_rfl) (.inl rfl) (by kernel_rfl) (by kernel_rfl) ?_
   refine evd_run 1 (by kernel_rfl) ?_
   refine evd_end (by kernel_rfl) ?_
   obtain ⟨l113, hl113, h⟩ := bindS h
   refine evo_op (st_app (c := (cS cB)) (l := s81.2) (l2 := [r112]) (x := (.sl (List.map (cS cB) [r112]))) (g := 500003) (e := 37) (sz := 1) (d := 31) (by kernel_rfl) (by kernel_rfl) (by kernel_rfl) (by kernel_rfl) (fun _ => rfl) rfl hl113) ?_
   refine evo_run 2 (by kernel_rfl) ?_
   refine evo_endS (by kernel_rfl) (fun τ hτ => ?_)
   refine bl_normal ?_
   refine th_normalS hτ ⟨[(2, (.ptr 500000 0)), (3, (.ptr 500001 0)), (20, (.sl (List.map (cS cB) st.Holes))), (21, (vI (st.Holes.length : Int))), (22, (vI s81.1))], [(500000, .box [.nl, .nl, .nl, .nl, .nl]), (500001, .box [(.row (.top 500002) 4), (.row (.top 500003) 37), (.row (.top 500004) 4), (.row (.top 500005) 3), (.row (.top 500006) 4)]), (500002, .row 4 [] (List.map cB r9)), (500003, .row 37 [] (List.map (cS cB) l113)), (500004, .row 4 [] (List.map cB r10)), (500005, .row 3 [] (List.map cI r11)), (500006, .row 4 [] (List.map cB r12))]⟩ (here (by kernel_rfl)) ?_
   refine sem_region (by kernel_rfl) ?_
   refine z6 2 (by kernel_rfl) (fun τ hτ => ?_)
   obtain rfl := Option.some.inj h
   exact lk_nextS hτ (here (by kernel_rfl))
  ·replace h := iteF hb h
   refine sem_exitS 0 (by kernel_rfl) rfl (fun τ hτ => ?_)
   refine th_exit ?_
   obtain rfl := Option.some.inj h
   exact lk_outS hτ rfl (here (by kernel_rfl))
 ·intro x
  rfl
 ·intro τ hτ
  refine bl_hit (by kernel_rfl) ?_
  refine th_normalS hτ ⟨[(2, (.ptr 500000 0)), (3, (.ptr 500001 0))], [(500000, .box [.nl, .nl, .nl, .nl, .nl]), (500001, .box [(.row (.top 500002) 4), (.row (.top 500003) 37), (.row (.top 500004) 4), (.row (.top 500005) 3), (.row (.top 500006) 4)]), (500002, .row 4 [] (List.map cB r9)), (500003, .row 37 [] (List.map (cS cB) x114)), (500004, .row 4 [] (List.map cB r10)), (500005, .row 3 [] (List.map cI r11)), (500006, .row 4 [] (List.map cB r12))]⟩ (here (by kernel_rfl)) ?_
  refine z8 2 ⟨[(2, (.ptr 500000 0))], [(500000, .box [(.row (.top 500002) 4), (.row (.top 500003) 37), (.row (.top 500004) 4), (.row (.top 500005) 3), (.row (.top 500006) 4)]), (500002, .row 4 [] (List.map cB r9)), (500003, .row 37 [] (List.map (cS cB) x114)), (500004, .row 4 [] (List.map cB r10)), (500005, .row 3 [] (List.map cI r11)), (500006, .row 4 [] (List.map cB r12))]⟩ (by kernel_rfl) (fun τ hτ => ?_)
  obtain rfl := Option.some.inj h
  exact rk_ret hτ [(2, (.ptr 0 0))] (subR_prep [] [(500000, 0), (500002, 1), (500003, 2), (500004, 3), (500005, 4), (500006, 5)] (by kernel_rfl) rfl rfl (by kernel_rfl)) (by kernel_rfl)
theorem W.cut_do_k_ok {l : LayoutT} {all : (List EdgeT)} {st : cut_State} {x3 : ItemT} {r : cut_State × Int} (h : cut_do_k l all st x3 = some r) : PC G.P 29 [(.agg [(vS l.Sheet.Name), (vS l.Sheet.Material), (vI l.Sheet.Gauge), (vI l.Sheet.Grain), (vI l.Sheet.Width), (vI l.Sheet.Height), (.sl (List.map c_Rect l.Sheet.Clamps)), (.sl (List.map c_Rect l.Sheet.Used)), (.sl (List.map c_Piece l.Pieces))]), (.sl (List.map c_EdgeT all)), (.agg [(.sl (List.map cB st.Cut)), (.sl (List.map (cS cB) st.Holes)), (.sl (List.map cB st.Done)), (.sl (List.map cI st.Joints)), (.sl (List.map cB st.Fallen))]), (.agg [(vI x3.Piece), (vI x3.Hole), (vI x3.Joints), (vI x3.Lead.X), (vI x3.Lead.Y)])] [] (.tup [(.agg [(.row (.top 1) 4), (.row (.top 2) 37), (.row (.top 3) 4), (.row (.top 4) 3), (.row (.top 5) 4)]), (vI r.2)]) [(0, .box [(.row (.top 1) 4), (.row (.top 2) 37), (.row (.top 3) 4), (.row (.top 4) 3), (.row (.top 5) 4)]), (1, .row 4 [] (List.map cB r.1.Cut)), (2, .row 37 [] (List.map (cS cB) r.1.Holes)), (3, .row 4 [] (List.map cB r.1.Done)), (4, .row 3 [] (List.map cI r.1.Joints)), (5, .row 4 [] (List.map cB r.1.Fallen))] := by
 refine pc_of G (fn := Try.f29) Try.func29 (by kernel_rfl) (by kernel_rfl) (by kernel_rfl) (by kernel_rfl) (by kernel_rfl) ?_
 refine sem_set ⟨[(0, (.agg [(vS l.Sheet.Name), (vS l.Sheet.Material), (vI l.Sheet.Gauge), (vI l.Sheet.Grain), (vI l.Sheet.Width), (vI l.Sheet.Height), (.sl (List.map c_Rect l.Sheet.Clamps)), (.sl (List.map c_Rect l.Sheet.Used)), (.sl (List.map c_Piece l.Pieces))])), (1, (.sl (List.map c_EdgeT all))), (2, (.agg [(.sl (List.map cB st.Cut)), (.sl (List.map (cS cB) st.Holes)), (.sl (List.map cB st.Done)), (.sl (List.map cI st.Joints)), (.sl (List.map cB st.Fallen))])), (3, (.agg [(vI x3.Piece), (vI x3.Hole), (vI x3.Joints), (vI x3.Lead.X), (vI x3.Lead.Y)]))], []⟩ (by kernel_rfl) ?_
 refine z3 5 ⟨[(1, (.sl (List.map c_EdgeT all))), (4, (.ptr 4 0)), (6, (.ptr 6 0)), (7, (.ptr 7 0)), (8, (.ptr 8 0))], [(4, .box [(vS l.Sheet.Name), (vS l.Sheet.Material), (vI l.Sheet.Gauge), (vI l.Sheet.Grain), (vI l.Sheet.Width), (vI l.Sheet.Height), (.sl (List.map c_Rect l.Sheet.Clamps)), (.sl (List.map c_Rect l.Sheet.Used)), (.sl (List.map c_Piece l.Pieces))]), (6, .box [(.sl (List.map cB st.Cut)), (.sl (List.map (cS cB) st.Holes)), (.sl (List.map cB st.Done)), (.sl (List.map cI st.Joints)), (.sl (List.map cB st.Fallen))]), (7, .box [(vI x3.Piece), (vI x3.Hole), (vI x3.Joints), (vI x3.Lead.X), (vI x3.Lead.Y)]), (8, .box [.nl, .nl, .nl, .nl, .nl])]⟩ (by kernel_rfl) ?_
 refine sem_seq (by kernel_rfl) ?_
 refine sem_block (by kernel_rfl) ?_
 refine z7 (by kernel_rfl) ?_
 refine evs_run 3 (by kernel_rfl) ?_
 refine evs_op (st_len (c := c_EdgeT) (l := all) (x := (.sl (List.map c_EdgeT all))) (by kernel_rfl) (by kernel_rfl)) ?_
 obtain ⟨r15, hr15, h⟩ := bindS h
 refine evs_callP [] (by kernel_rfl) (W.cut_State_fits_k_ok hr15) (by kernel_rfl) (.inl rfl) (by kernel_rfl) ?_
 refine evs_run 2 (by kernel_rfl) ?_
 refine evs_split r15 (fun b0 => ⟨[(1, (.sl (List.map c_EdgeT all))), (4, (.ptr 4 0)), (6, (.ptr 6 0)), (7, (.ptr 7 0)), (8, (.ptr 8 0)), (21, (vB (!b0)))], [(4, .box [(vS l.Sheet.Name), (vS l.Sheet.Material), (vI l.Sheet.Gauge), (vI l.Sheet.Grain), (vI l.Sheet.Width), (vI l.Sheet.Height), (.sl (List.map c_Rect l.Sheet.Clamps)), (.sl (List.map c_Rect l.Sheet.Used)), (.sl (List.map c_Piece l.Pieces))]), (6, .box [(.sl (List.map cB st.Cut)), (.sl (List.map (cS cB) st.Holes)), (.sl (List.map cB st.Done)), (.sl (List.map cI st.Joints)), (.sl (List.map cB st.Fallen))]), (7, .box [(vI x3.Piece), (vI x3.Hole), (vI x3.Joints), (vI x3.Lead.X), (vI x3.Lead.Y)]), (8, .box [.nl, .nl, .nl, .nl, .nl])]⟩) (by kernel_rfl) (fun hb => ?_) (fun hb => ?_)
 ·replace h := iteT hb h
  refine evs_run 5 (by kernel_rfl) ?_
  refine evs_split (decide (x3.Piece < 0)) (fun b0 => ⟨[(1, (.sl (List.map c_EdgeT all))), (4, (.ptr 4 0)), (6, (.ptr 6 0)), (7, (.ptr 7 0)), (8, (.ptr 8 0)), (26, (vB b0))], [(4, .box [(vS l.Sheet.Name), (vS l.Sheet.Material), (vI l.Sheet.Gauge), (vI l.Sheet.Grain), (vI l.Sheet.Width), (vI l.Sheet.Height), (.sl (List.map c_Rect l.Sheet.Clamps)), (.sl (List.map c_Rect l.Sheet.Used)), (.sl (List.map c_Piece l.Pieces))]), (6, .box [(.sl (List.map cB st.Cut)), (.sl (List.map (cS cB) st.Holes)), (.sl (List.map cB st.Done)), (.sl (List.map cI st.Joints)), (.sl (List.map cB st.Fallen))]), (7, .box [(vI x3.Piece), (vI x3.Hole), (vI x3.Joints), (vI x3.Lead.X), (vI x3.Lead.Y)]), (8, .box [.nl, .nl, .nl, .nl, .nl])]⟩) (by kernel_rfl) (fun hb => ?_) (fun hb => ?_)
  ·replace h := iteT hb h
   exact nomatch h
  ·replace h := iteF hb h
   refine evs_run 4 (by kernel_rfl) ?_
   refine evs_op (st_len (c := c_Piece) (l := l.Pieces) (x := (.sl (List.map c_Piece l.Pieces))) (by kernel_rfl) (by kernel_rfl)) ?_
   refine z1 3 ⟨[(1, (.sl (List.map c_EdgeT all))), (4, (.ptr 4 0)), (6, (.ptr 6 0)), (7, (.ptr 7 0)), (8, (.ptr 8 0)), (14, (vB (decide (x3.Piece ≥ (l.Pieces.length : Int)))))], [(4, .box [(vS l.Sheet.Name), (vS l.Sheet.Material), (vI l.Sheet.Gauge), (vI l.Sheet.Grain), (vI l.Sheet.Width), (vI l.Sheet.Height), (.sl (List.map c_Rect l.Sheet.Clamps)), (.sl (List.map c_Rect l.Sheet.Used)), (.sl (List.map c_Piece l.Pieces))]), (6, .box [(.sl (List.map cB st.Cut)), (.sl (List.map (cS cB) st.Holes)), (.sl (List.map cB st.Done)), (.sl (List.map cI st.Joints)), (.sl (List.map cB st.Fallen))]), (7, .box [(vI x3.Piece), (vI x3.Hole), (vI x3.Joints), (vI x3.Lead.X), (vI x3.Lead.Y)]), (8, .box [.nl, .nl, .nl, .nl, .nl])]⟩ (by kernel_rfl) ?_
   refine sem_cond (decide (x3.Piece ≥ (l.Pieces.length : Int))) (by kernel_rfl) (by kernel_rfl) (fun hb => ?_) (fun hb => ?_)
   ·replace h := iteT hb h
    exact nomatch h
   ·replace h := iteF hb h
    refine sem_seq (by kernel_rfl) ?_
    refine sem_drawN [] [] [] [] [] 14 (by kernel_rfl) (by kernel_rfl) (by kernel_rfl) ?_
    refine evd_run 4 (by kernel_rfl) ?_
    refine evd_split (decide (x3.Hole < (-1))) (fun b0 => ⟨[(39, (vB b0)), (38, (vB b0)), (37, (vI x3.Hole)), (36, (.ptr 7 1)), (1, (.sl (List.map c_EdgeT all))), (4, (.ptr 4 0)), (6, (.ptr 6 0)), (7, (.ptr 7 0)), (8, (.ptr 8 0)), (14, (vB (decide (x3.Piece ≥ (l.Pieces.length : Int)))))], [(4, .box [(vS l.Sheet.Name), (vS l.Sheet.Material), (vI l.Sheet.Gauge), (vI l.Sheet.Grain), (vI l.Sheet.Width), (vI l.Sheet.Height), (.sl (List.map c_Rect l.Sheet.Clamps)), (.sl (List.map c_Rect l.Sheet.Used)), (.sl (List.map c_Piece l.Pieces))]), (6, .box [(.sl (List.map cB st.Cut)), (.sl (List.map (cS cB) st.Holes)), (.sl (List.map cB st.Done)), (.sl (List.map cI st.Joints)), (.sl (List.map cB st.Fallen))]), (7, .box [(vI x3.Piece), (vI x3.Hole), (vI x3.Joints), (vI x3.Lead.X), (vI x3.Lead.Y)]), (8, .box [.nl, .nl, .nl, .nl, .nl])]⟩) (by kernel_rfl) (fun hb => ?_) (fun hb => ?_)
    ·replace h := iteT hb h
     exact nomatch h
    ·replace h := iteF hb h
     refine evd_run 6 (by kernel_rfl) ?_
     obtain ⟨x18, hx18, h⟩ := bindS h
     refine evd_val (by kernel_rfl) (st_idx (c := c_Piece) (l := l.Pieces) (i := x3.Piece) (kd := .i64) (sz := 7) (by kernel_rfl) hx18 rfl) (by kernel_rfl) (by kernel_rfl) ?_
     refine evd_run 2 (by kernel_rfl) ?_
     refine evd_val (by kernel_rfl) (st_len (c := c_Rect) (l := x18.Cuts) (x := (.sl (List.map c_Rect x18.Cuts))) (by kernel_rfl) (by kernel_rfl)) (by kernel_rfl) (by kernel_rfl) ?_
     refine evd_end (by kernel_rfl) ?_
     refine evo_run 3 (by kernel_rfl) ?_
     refine evo_split (decide (x3.Hole ≥ (x18.Cuts.length : Int))) (fun b0 => ⟨[(1, (.sl (List.map c_EdgeT all))), (4, (.ptr 4 0)), (6, (.ptr 6 0)), (7, (.ptr 7 0)), (8, (.ptr 8 0)), (52, (vB b0))], [(4, .box [(vS l.Sheet.Name), (vS l.Sheet.Material), (vI l.Sheet.Gauge), (vI l.Sheet.Grain), (vI l.Sheet.Width), (vI l.Sheet.Height), (.sl (List.map c_Rect l.Sheet.Clamps)), (.sl (List.map c_Rect l.Sheet.Used)), (.sl (List.map c_Piece l.Pieces))]), (6, .box [(.sl (List.map cB st.Cut)), (.sl (List.map (cS cB) st.Holes)), (.sl (List.map cB st.Done)), (.sl (List.map cI st.Joints)), (.sl (List.map cB st.Fallen))]), (7, .box [(vI x3.Piece), (vI x3.Hole), (vI x3.Joints), (vI x3.Lead.X), (vI x3.Lead.Y)]), (8, .box [.nl, .nl, .nl, .nl, .nl])]⟩) (by kernel_rfl) (fun hb => ?_) (fun hb => ?_)
     ·replace h := iteT hb h
      exact nomatch h
     ·replace h := iteF hb h
      refine evo_run 5 (by kernel_rfl) ?_
      refine evo_split (decide (x3.Joints < 0)) (fun b0 => ⟨[(1, (.sl (List.map c_EdgeT all))), (4, (.ptr 4 0)), (6, (.ptr 6 0)), (7, (.ptr 7 0)), (8, (.ptr 8 0)), (57, (vB b0))], [(4, .box [(vS l.Sheet.Name), (vS l.Sheet.Material), (vI l.Sheet.Gauge), (vI l.Sheet.Grain), (vI l.Sheet.Width), (vI l.Sheet.Height), (.sl (List.map c_Rect l.Sheet.Clamps)), (.sl (List.map c_Rect l.Sheet.Used)), (.sl (List.map c_Piece l.Pieces))]), (6, .box [(.sl (List.map cB st.Cut)), (.sl (List.map (cS cB) st.Holes)), (.sl (List.map cB st.Done)), (.sl (List.map cI st.Joints)), (.sl (List.map cB st.Fallen))]), (7, .box [(vI x3.Piece), (vI x3.Hole), (vI x3.Joints), (vI x3.Lead.X), (vI x3.Lead.Y)]), (8, .box [.nl, .nl, .nl, .nl, .nl])]⟩) (by kernel_rfl) (fun hb => ?_) (fun hb => ?_)
      ·replace h := iteT hb h
       exact nomatch h
      ·replace h := iteF hb h
       refine evo_run 5 (by kernel_rfl) ?_
       refine evo_split (decide (x3.Joints > 4)) (fun b0 => ⟨[(1, (.sl (List.map c_EdgeT all))), (4, (.ptr 4 0)), (6, (.ptr 6 0)), (7, (.ptr 7 0)), (8, (.ptr 8 0)), (62, (vB b0))], [(4, .box [(vS l.Sheet.Name), (vS l.Sheet.Material), (vI l.Sheet.Gauge), (vI l.Sheet.Grain), (vI l.Sheet.Width), (vI l.Sheet.Height), (.sl (List.map c_Rect l.Sheet.Clamps)), (.sl (List.map c_Rect l.Sheet.Used)), (.sl (List.map c_Piece l.Pieces))]), (6, .box [(.sl (List.map cB st.Cut)), (.sl (List.map (cS cB) st.Holes)), (.sl (List.map cB st.Done)), (.sl (List.map cI st.Joints)), (.sl (List.map cB st.Fallen))]), (7, .box [(vI x3.Piece), (vI x3.Hole), (vI x3.Joints), (vI x3.Lead.X), (vI x3.Lead.Y)]), (8, .box [.nl, .nl, .nl, .nl, .nl])]⟩) (by kernel_rfl) (fun hb => ?_) (fun hb => ?_)
       ·replace h := iteT hb h
        exact nomatch h
       ·replace h := iteF hb h
        refine evo_run 4 (by kernel_rfl) ?_
        refine evo_split (decide (x3.Hole ≥ 0)) (fun b0 => ⟨[(1, (.sl (List.map c_EdgeT all))), (4, (.ptr 4 0)), (6, (.ptr 6 0)), (7, (.ptr 7 0)), (8, (.ptr 8 0)), (62, (vB false)), (66, (vB b0))], [(4, .box [(vS l.Sheet.Name), (vS l.Sheet.Material), (vI l.Sheet.Gauge), (vI l.Sheet.Grain), (vI l.Sheet.Width), (vI l.Sheet.Height), (.sl (List.map c_Rect l.Sheet.Clamps)), (.sl (List.map c_Rect l.Sheet.Used)), (.sl (List.map c_Piece l.Pieces))]), (6, .box [(.sl (List.map cB st.Cut)), (.sl (List.map (cS cB) st.Holes)), (.sl (List.map cB st.Done)), (.sl (List.map cI st.Joints)), (.sl (List.map cB st.Fallen))]), (7, .box [(vI x3.Piece), (vI x3.Hole), (vI x3.Joints), (vI x3.Lead.X), (vI x3.Lead.Y)]), (8, .box [.nl, .nl, .nl, .nl, .nl])]⟩) (by kernel_rfl) (fun hb => ?_) (fun hb => ?_)
        ·replace h := iteT hb h
         exact nomatch h
        ·replace h := iteF hb h
         refine evo_run 6 (by kernel_rfl) ?_
         refine evo_endS (by kernel_rfl) (fun τ hτ => ?_)
         refine th_normalS hτ ⟨[(1, (.sl (List.map c_EdgeT all))), (4, (.ptr 4 0)), (6, (.ptr 6 0)), (7, (.ptr 7 0)), (8, (.ptr 8 0)), (35, (vB false))], [(4, .box [(vS l.Sheet.Name), (vS l.Sheet.Material), (vI l.Sheet.Gauge), (vI l.Sheet.Grain), (vI l.Sheet.Width), (vI l.Sheet.Height), (.sl (List.map c_Rect l.Sheet.Clamps)), (.sl (List.map c_Rect l.Sheet.Used)), (.sl (List.map c_Piece l.Pieces))]), (6, .box [(.sl (List.map cB st.Cut)), (.sl (List.map (cS cB) st.Holes)), (.sl (List.map cB st.Done)), (.sl (List.map cI st.Joints)), (.sl (List.map cB st.Fallen))]), (7, .box [(vI x3.Piece), (vI x3.Hole), (vI x3.Joints), (vI x3.Lead.X), (vI x3.Lead.Y)]), (8, .box [.nl, .nl, .nl, .nl, .nl])]⟩ (here (by kernel_rfl)) ?_
         refine sem_condF (by kernel_rfl) (by kernel_rfl) ?_
         refine z7 (by kernel_rfl) ?_
         refine evs_run 3 (by kernel_rfl) ?_
         obtain ⟨r20, hr20, h⟩ := bindS h
         refine evs_callP [] (by kernel_rfl) (W.cut_State_order_k_ok hr20) (by kernel_rfl) (.inl rfl) (by kernel_rfl) ?_
         refine z1 2 ⟨[(1, (.sl (List.map c_EdgeT all))), (4, (.ptr 4 0)), (6, (.ptr 6 0)), (7, (.ptr 7 0)), (8, (.ptr 8 0)), (73, (vB (!r20)))], [(4, .box [(vS l.Sheet.Name), (vS l.Sheet.Material), (vI l.Sheet.Gauge), (vI l.Sheet.Grain), (vI l.Sheet.Width), (vI l.Sheet.Height), (.sl (List.map c_Rect l.Sheet.Clamps)), (.sl (List.map c_Rect l.Sheet.Used)), (.sl (List.map c_Piece l.Pieces))]), (6, .box [(.sl (List.map cB st.Cut)), (.sl (List.map (cS cB) st.Holes)), (.sl (List.map cB st.Done)), (.sl (List.map cI st.Joints)), (.sl (List.map cB st.Fallen))]), (7, .box [(vI x3.Piece), (vI x3.Hole), (vI x3.Joints), (vI x3.Lead.X), (vI x3.Lead.Y)]), (8, .box [.nl, .nl, .nl, .nl, .nl])]⟩ (by kernel_rfl) ?_
         refine sem_cond (!r20) (by kernel_rfl) (by kernel_rfl) (fun hb => ?_) (fun hb => ?_)
         ·replace h := iteT hb h
          exact nomatch h
         ·replace h := iteF hb h
          refine z7 (by kernel_rfl) ?_
          refine evs_run 4 (by kernel_rfl) ?_
          refine evs_split (decide (x3.Hole < 0)) (fun b0 => ⟨[(1, (.sl (List.map c_EdgeT all))), (4, (.ptr 4 0)), (6, (.ptr 6 0)), (7, (.ptr 7 0)), (8, (.ptr 8 0)), (84, (vB b0))], [(4, .box [(vS l.Sheet.Name), (vS l.Sheet.Material), (vI l.Sheet.Gauge), (vI l.Sheet.Grain), (vI l.Sheet.Width), (vI l.Sheet.Height), (.sl (List.map c_Rect l.Sheet.Clamps)), (.sl (List.map c_Rect l.Sheet.Used)), (.sl (List.map c_Piece l.Pieces))]), (6, .box [(.sl (List.map cB st.Cut)), (.sl (List.map (cS cB) st.Holes)), (.sl (List.map cB st.Done)), (.sl (List.map cI st.Joints)), (.sl (List.map cB st.Fallen))]), (7, .box [(vI x3.Piece), (vI x3.Hole), (vI x3.Joints), (vI x3.Lead.X), (vI x3.Lead.Y)]), (8, .box [.nl, .nl, .nl, .nl, .nl])]⟩) (by kernel_rfl) (fun hb => ?_) (fun hb => ?_)
          ·replace h := iteT hb h
           refine evs_run 5 (by kernel_rfl) ?_
           refine evs_split (x3.Joints == 0) (fun b0 => ⟨[(1, (.sl (List.map c_EdgeT all))), (4, (.ptr 4 0)), (6, (.ptr 6 0)), (7, (.ptr 7 0)), (8, (.ptr 8 0)), (89, (vB b0))], [(4, .box [(vS l.Sheet.Name), (vS l.Sheet.Material), (vI l.Sheet.Gauge), (vI l.Sheet.Grain), (vI l.Sheet.Width), (vI l.Sheet.Height), (.sl (List.map c_Rect l.Sheet.Clamps)), (.sl (List.map c_Rect l.Sheet.Used)), (.sl (List.map c_Piece l.Pieces))]), (6, .box [(.sl (List.map cB st.Cut)), (.sl (List.map (cS cB) st.Holes)), (.sl (List.map cB st.Done)), (.sl (List.map cI st.Joints)), (.sl (List.map cB st.Fallen))]), (7, .box [(vI x3.Piece), (vI x3.Hole), (vI x3.Joints), (vI x3.Lead.X), (vI x3.Lead.Y)]), (8, .box [.nl, .nl, .nl, .nl, .nl])]⟩) (by kernel_rfl) (fun hb => ?_) (fun hb => ?_)
           ·replace h := iteT hb h
            refine evs_run 4 (by kernel_rfl) ?_
            obtain ⟨x23, hx23, h⟩ := bindS h
            refine evs_op (st_idx (c := c_Piece) (l := l.Pieces) (i := x3.Piece) (kd := .i64) (sz := 7) (by kernel_rfl) hx23 rfl) ?_
            refine evs_run 1 (by kernel_rfl) ?_
            obtain ⟨r24, hr24, h⟩ := bindS h
            refine evs_callP [] (by kernel_rfl) (W.cut_Small_k_ok hr24) (by kernel_rfl) (.inl rfl) (by kernel_rfl) ?_
            refine z1 2 ⟨[(1, (.sl (List.map c_EdgeT all))), (4, (.ptr 4 0)), (6, (.ptr 6 0)), (7, (.ptr 7 0)), (8, (.ptr 8 0)), (80, (vB r24))], [(4, .box [(vS l.Sheet.Name), (vS l.Sheet.Material), (vI l.Sheet.Gauge), (vI l.Sheet.Grain), (vI l.Sheet.Width), (vI l.Sheet.Height), (.sl (List.map c_Rect l.Sheet.Clamps)), (.sl (List.map c_Rect l.Sheet.Used)), (.sl (List.map c_Piece l.Pieces))]), (6, .box [(.sl (List.map cB st.Cut)), (.sl (List.map (cS cB) st.Holes)), (.sl (List.map cB st.Done)), (.sl (List.map cI st.Joints)), (.sl (List.map cB st.Fallen))]), (7, .box [(vI x3.Piece), (vI x3.Hole), (vI x3.Joints), (vI x3.Lead.X), (vI x3.Lead.Y)]), (8, .box [.nl, .nl, .nl, .nl, .nl])]⟩ (by kernel_rfl) ?_
            refine sem_cond r24 (by kernel_rfl) (by kernel_rfl) (fun hb => ?_) (fun hb => ?_)
            ·replace h := iteT hb h
             exact nomatch h
            ·replace h := iteF hb h
             refine z7 (by kernel_rfl) ?_
             refine evs_run 4 (by kernel_rfl) ?_
             obtain ⟨r26, hr26, h⟩ := bindS h
             refine evs_callP [] (by kernel_rfl) (W.cut_State_lead_k_ok hr26) (by kernel_rfl) (.inl rfl) (by kernel_rfl) ?_
             refine z1 2 ⟨[(1, (.sl (List.map c_EdgeT all))), (4, (.ptr 4 0)), (6, (.ptr 6 0)), (7, (.ptr 7 0)), (8, (.ptr 8 0)), (99, (vB (!r26)))], [(4, .box [(vS l.Sheet.Name), (vS l.Sheet.Material), (vI l.Sheet.Gauge), (vI l.Sheet.Grain), (vI l.Sheet.Width), (vI l.Sheet.Height), (.sl (List.map c_Rect l.Sheet.Clamps)), (.sl (List.map c_Rect l.Sheet.Used)), (.sl (List.map c_Piece l.Pieces))]), (6, .box [(.sl (List.map cB st.Cut)), (.sl (List.map (cS cB) st.Holes)), (.sl (List.map cB st.Done)), (.sl (List.map cI st.Joints)), (.sl (List.map cB st.Fallen))]), (7, .box [(vI x3.Piece), (vI x3.Hole), (vI x3.Joints), (vI x3.Lead.X), (vI x3.Lead.Y)]), (8, .box [.nl, .nl, .nl, .nl, .nl])]⟩ (by kernel_rfl) ?_
             refine sem_cond (!r26) (by kernel_rfl) (by kernel_rfl) (fun hb => ?_) (fun hb => ?_)
             ·replace h := iteT hb h
              exact nomatch h
             ·replace h := iteF hb h
              refine sem_skipS (by kernel_rfl) (fun τ hτ => ?_)
              refine bl_normal ?_
              refine th_normalS hτ ⟨[(1, (.sl (List.map c_EdgeT all))), (4, (.ptr 4 0)), (6, (.ptr 6 0)), (7, (.ptr 7 0)), (8, (.ptr 8 0))], [(4, .box [(vS l.Sheet.Name), (vS l.Sheet.Material), (vI l.Sheet.Gauge), (vI l.Sheet.Grain), (vI l.Sheet.Width), (vI l.Sheet.Height), (.sl (List.map c_Rect l.Sheet.Clamps)), (.sl (List.map c_Rect l.Sheet.Used)), (.sl (List.map c_Piece l.Pieces))]), (6, .box [(.sl (List.map cB st.Cut)), (.sl (List.map (cS cB) st.Holes)), (.sl (List.map cB st.Done)), (.sl (List.map cI st.Joints)), (.sl (List.map cB st.Fallen))]), (7, .box [(vI x3.Piece), (vI x3.Hole), (vI x3.Joints), (vI x3.Lead.X), (vI x3.Lead.Y)]), (8, .box [.nl, .nl, .nl, .nl, .nl])]⟩ (here (by kernel_rfl)) ?_
              refine z7 (by kernel_rfl) ?_
              refine evs_run 1 (by kernel_rfl) ?_
              obtain ⟨r28, hr28, h⟩ := bindS h
              refine evs_callS [] [(0, 700050), (1, 700051), (2, 700052), (3, 700053), (4, 700054), (5, 700055)] [] (by kernel_rfl) (W.cut_State_clone_k_ok hr28) (by kernel_rfl) (by kernel_rfl) (.inl rfl) ?_
              refine z1 2 ⟨[(1, (.sl (List.map c_EdgeT all))), (4, (.ptr 4 0)), (7, (.ptr 7 0)), (8, (.ptr 8 0)), (10, (.ptr 10 0))], [(4, .box [(vS l.Sheet.Name), (vS l.Sheet.Material), (vI l.Sheet.Gauge), (vI l.Sheet.Grain), (vI l.Sheet.Width), (vI l.Sheet.Height), (.sl (List.map c_Rect l.Sheet.Clamps)), (.sl (List.map c_Rect l.Sheet.Used)), (.sl (List.map c_Piece l.Pieces))]), (7, .box [(vI x3.Piece), (vI x3.Hole), (vI x3.Joints), (vI x3.Lead.X), (vI x3.Lead.Y)]), (8, .box [.nl, .nl, .nl, .nl, .nl]), (10, .box [(.row (.top 700051) 4), (.row (.top 700052) 37), (.row (.top 700053) 4), (.row (.top 700054) 3), (.row (.top 700055) 4)]), (700051, .row 4 [] (List.map cB r28.Cut)), (700052, .row 37 [] (List.map (cS cB) r28.Holes)), (700053, .row 4 [] (List.map cB r28.Done)), (700054, .row 3 [] (List.map cI r28.Joints)), (700055, .row 4 [] (List.map cB r28.Fallen))]⟩ (by kernel_rfl) ?_
              refine sem_seq (by kernel_rfl) ?_
              refine z3 3 ⟨[(1, (.sl (List.map c_EdgeT all))), (4, (.ptr 4 0)), (7, (.ptr 7 0)), (8, (.ptr 8 0)), (10, (.ptr 10 0)), (111, (vB (decide (x3.Hole ≥ 0))))], [(4, .box [(vS l.Sheet.Name), (vS l.Sheet.Material), (vI l.Sheet.Gauge), (vI l.Sheet.Grain), (vI l.Sheet.Width), (vI l.Sheet.Height), (.sl (List.map c_Rect l.Sheet.Clamps)), (.sl (List.map c_Rect l.Sheet.Used)), (.sl (List.map c_Piece l.Pieces))]), (7, .box [(vI x3.Piece), (vI x3.Hole), (vI x3.Joints), (vI x3.Lead.X), (vI x3.Lead.Y)]), (8, .box [.nl, .nl, .nl, .nl, .nl]), (10, .box [(.row (.top 700051) 4), (.row (.top 700052) 37), (.row (.top 700053) 4), (.row (.top 700054) 3), (.row (.top 700055) 4)]), (700051, .row 4 [] (List.map cB r28.Cut)), (700052, .row 37 [] (List.map (cS cB) r28.Holes)), (700053, .row 4 [] (List.map cB r28.Done)), (700054, .row 3 [] (List.map cI r28.Joints)), (700055, .row 4 [] (List.map cB r28.Fallen))]⟩ (by kernel_rfl) ?_
              refine sem_cond (decide (x3.Hole ≥ 0)) (by kernel_rfl) (by kernel_rfl) (fun hb => ?_) (fun hb => ?_)
              ·replace h := iteT hb h
               exact nomatch h
              ·replace h := iteF hb h
               refine sem_seq (by kernel_rfl) ?_
               refine sem_drawN [(11, [700053])] [] [] [(4, [700053]), (5, [700053]), (6, [700053]), (7, [700053]), (8, [700053]), (9, [700053])] [] 12 (by kernel_rfl) (by kernel_rfl) (by kernel_rfl) ?_
               refine evd_run 10 (by kernel_rfl) ?_
               obtain ⟨x81, hx81, h⟩ := bindS h
               refine evd_val (by kernel_rfl) (st_idxO (c := cB) (l := r28.Done) (i := x3.Piece) (kd := .i64) (kk := (.top 700053)) (e := 4) (sz := 1) (by kernel_rfl) (by kernel_rfl) hx81 rfl) (by kernel_rfl) (by kernel_rfl) ?_
               refine evd_set (by kernel_rfl) (st_stO (c := cB) (l := r28.Done) (i := (Int.toNat x3.Piece)) (x := x81) (x' := true) (v := (vB true)) (agg := false) (sz := 1) (kk := (.top 700053)) (e := 4) (off := 0) (J := []) (o := .row 4 [] (List.map cB (List.set r28.Done (Int.toNat x3.Piece) true))) (by kernel_rfl) (by kernel_rfl) (by kernel_rfl) ((idxS hx81).2) (by kernel_rfl) (by kernel_rfl) (by kernel_rfl)) (by kernel_rfl) (by kernel_rfl) (by kernel_rfl) ?_
               refine evd_end (by kernel_rfl) ?_
               obtain ⟨x82, hx82, h⟩ := bindS h
               refine evo_op (st_idxO (c := cI) (l := r28.Joints) (i := x3.Piece) (kd := .i64) (kk := (.top 700054)) (e := 3) (sz := 1) (by kernel_rfl) (by kernel_rfl) hx82 rfl) ?_
               refine evo_op (st_stO (c := cI) (l := r28.Joints) (i := (Int.toNat x3.Piece)) (x := x82) (x' := x3.Joints) (v := (vI x3.Joints)) (agg := false) (sz := 1) (kk := (.top 700054)) (e := 3) (off := 0) (J := []) (o := .row 3 [] (List.map cI (List.set r28.Joints (Int.toNat x3.Piece) x3.Joints))) (by kernel_rfl) (by kernel_rfl) (by kernel_rfl) ((idxS hx82).2) (by kernel_rfl) (by kernel_rfl) (by kernel_rfl)) ?_
               refine evo_endS (by kernel_rfl) (fun τ hτ => ?_)
               refine th_normalS hτ ⟨[(1, (.sl (List.map c_EdgeT all))), (4, (.ptr 4 0)), (7, (.ptr 7 0)), (8, (.ptr 8 0)), (10, (.ptr 10 0))], [(4, .box [(vS l.Sheet.Name), (vS l.Sheet.Material), (vI l.Sheet.Gauge), (vI l.Sheet.Grain), (vI l.Sheet.Width), (vI l.Sheet.Height), (.sl (List.map c_Rect l.Sheet.Clamps)), (.sl (List.map c_Rect l.Sheet.Used)), (.sl (List.map c_Piece l.Pieces))]), (7, .box [(vI x3.Piece), (vI x3.Hole), (vI x3.Joints), (vI x3.Lead.X), (vI x3.Lead.Y)]), (8, .box [.nl, .nl, .nl, .nl, .nl]), (10, .box [(.row (.top 700051) 4), (.row (.top 700052) 37), (.row (.top 700053) 4), (.row (.top 700054) 3), (.row (.top 700055) 4)]), (700051, .row 4 [] (List.map cB r28.Cut)), (700052, .row 37 [] (List.map (cS cB) r28.Holes)), (700053, .row 4 [] (List.map cB (List.set r28.Done (Int.toNat x3.Piece) true))), (700054, .row 3 [] (List.map cI (List.set r28.Joints (Int.toNat x3.Piece) x3.Joints))), (700055, .row 4 [] (List.map cB r28.Fallen))]⟩ (here (by kernel_rfl)) ?_
               refine z7 (by kernel_rfl) ?_
               refine evs_run 1 (by kernel_rfl) ?_
               refine evs_op (st_len (c := c_EdgeT) (l := all) (x := (.sl (List.map c_EdgeT all))) (by kernel_rfl) (by kernel_rfl)) ?_
               refine z1 1 ⟨[(1, (.sl (List.map c_EdgeT all))), (4, (.ptr 4 0)), (7, (.ptr 7 0)), (8, (.ptr 8 0)), (10, (.ptr 10 0)), (133, (.sl (List.map c_EdgeT all))), (134, (vI (all.length : Int))), (135, (vI 0))], [(4, .box [(vS l.Sheet.Name), (vS l.Sheet.Material), (vI l.Sheet.Gauge), (vI l.Sheet.Grain), (vI l.Sheet.Width), (vI l.Sheet.Height), (.sl (List.map c_Rect l.Sheet.Clamps)), (.sl (List.map c_Rect l.Sheet.Used)), (.sl (List.map c_Piece l.Pieces))]), (7, .box [(vI x3.Piece), (vI x3.Hole), (vI x3.Joints), (vI x3.Lead.X), (vI x3.Lead.Y)]), (8, .box [.nl, .nl, .nl, .nl, .nl]), (10, .box [(.row (.top 700051) 4), (.row (.top 700052) 37), (.row (.top 700053) 4), (.row (.top 700054) 3), (.row (.top 700055) 4)]), (700051, .row 4 [] (List.map cB r28.Cut)), (700052, .row 37 [] (List.map (cS cB) r28.Holes)), (700053, .row 4 [] (List.map cB (List.set r28.Done (Int.toNat x3.Piece) true))), (700054, .row 3 [] (List.map cI (List.set r28.Joints (Int.toNat x3.Piece) x3.Joints))), (700055, .row 4 [] (List.map cB r28.Fallen))]⟩ (by kernel_rfl) ?_
               refine sem_block (by kernel_rfl) ?_
               obtain ⟨x124, hx124, h⟩ := bindS h
               refine sem_loopS (fun (s97 : Int × (List Bool)) => ⟨[(1, (.sl (List.map c_EdgeT all))), (4, (.ptr 500000 0)), (7, (.ptr 500001 0)), (8, (.ptr 500002 0)), (10, (.ptr 500003 0)), (133, (.sl (List.map c_EdgeT all))), (134, (vI (all.length : Int))), (135, (vI s97.1))], [(500000, .box [(vS l.Sheet.Name), (vS l.Sheet.Material), (vI l.Sheet.Gauge), (vI l.Sheet.Grain), (vI l.Sheet.Width), (vI l.Sheet.Height), (.sl (List.map c_Rect l.Sheet.Clamps)), (.sl (List.map c_Rect l.Sheet.Used)), (.sl (List.map c_Piece l.Pieces))]), (500001, .box [(vI x3.Piece), (vI x3.Hole), (vI x3.Joints), (vI x3.Lead.X), (vI x3.Lead.Y)]), (500002, .box [.nl, .nl, .nl, .nl, .nl]), (500003, .box [(.row (.top 500004) 4), (.row (.top 500005) 37), (.row (.top 500006) 4), (.row (.top 500007) 3), (.row (.top 500008) 4)]), (500004, .row 4 [] (List.map cB s97.2)), (500005, .row 37 [] (List.map (cS cB) r28.Holes)), (500006, .row 4 [] (List.map cB (List.set r28.Done (Int.toNat x3.Piece) true))), (500007, .row 3 [] (List.map cI (List.set r28.Joints (Int.toNat x3.Piece) x3.Joints))), (500008, .row 4 [] (List.map cB r28.Fallen))]⟩) (fun (x124 : (List Bool)) => (.exit 1, ⟨[(1, (.sl (List.map c_EdgeT all))), (4, (.ptr 500000 0)), (8, (.ptr 500001 0)), (10, (.ptr 500002 0))], [(500000, .box [(vS l.Sheet.Name), (vS l.Sheet.Material), (vI l.Sheet.Gauge), (vI l.Sheet.Grain), (vI l.Sheet.Width), (vI l.Sheet.Height), (.sl (List.map c_Rect l.Sheet.Clamps)), (.sl (List.map c_Rect l.Sheet.Used)), (.sl (List.map c_Piece l.Pieces))]), (500001, .box [.nl, .nl, .nl, .nl, .nl]), (500002, .box [(.row (.top 500003) 4), (.row (.top 500004) 37), (.row (.top 500005) 4), (.row (.top 500006) 3), (.row (.top 500007) 4)]), (500003, .row 4 [] (List.map cB x124)), (500004, .row 37 [] (List.map (cS cB) r28.Holes)), (500005, .row 4 [] (List.map cB (List.set r28.Done (Int.toNat x3.Piece) true))), (500006, .row 3 [] (List.map cI (List.set r28.Joints (Int.toNat x3.Piece) x3.Joints))), (500007, .row 4 [] (List.map cB r28.Fallen))]⟩)) (cut_do_k_l2 all x3) (0, r28.Cut) x124 (by kernel_rfl) (subR_prep [] [(4, 500000), (7, 500001), (8, 500002), (10, 500003), (700051, 500004), (700052, 500005), (700053, 500006), (700054, 500007), (700055, 500008)] (by kernel_rfl) rfl rfl (by kernel_rfl)) (iter_loop hx124) ?_ ?_ ?_
               ·intro s97 r h
                refine z3 1 ⟨[(1, (.sl (List.map c_EdgeT all))), (4, (.ptr 500000 0)), (7, (.ptr 500001 0)), (8, (.ptr 500002 0)), (10, (.ptr 500003 0)), (133, (.sl (List.map c_EdgeT all))), (134, (vI (all.length : Int))), (135, (vI s97.1)), (136, (vB (decide (s97.1 < (all.length : Int)))))], [(500000, .box [(vS l.Sheet.Name), (vS l.Sheet.Material), (vI l.Sheet.Gauge), (vI l.Sheet.Grain), (vI l.Sheet.Width), (vI l.Sheet.Height), (.sl (List.map c_Rect l.Sheet.Clamps)), (.sl (List.map c_Rect l.Sheet.Used)), (.sl (List.map c_Piece l.Pieces))]), (500001, .box [(vI x3.Piece), (vI x3.Hole), (vI x3.Joints), (vI x3.Lead.X), (vI x3.Lead.Y)]), (500002, .box [.nl, .nl, .nl, .nl, .nl]), (500003, .box [(.row (.top 500004) 4), (.row (.top 500005) 37), (.row (.top 500006) 4), (.row (.top 500007) 3), (.row (.top 500008) 4)]), (500004, .row 4 [] (List.map cB s97.2)), (500005, .row 37 [] (List.map (cS cB) r28.Holes)), (500006, .row 4 [] (List.map cB (List.set r28.Done (Int.toNat x3.Piece) true))), (500007, .row 3 [] (List.map cI (List.set r28.Joints (Int.toNat x3.Piece) x3.Joints))), (500008, .row 4 [] (List.map cB r28.Fallen))]⟩ (by kernel_rfl) ?_
                refine sem_seq (by kernel_rfl) ?_
                refine sem_cond (decide (s97.1 < (all.length : Int))) (by kernel_rfl) (by kernel_rfl) (fun hb => ?_) (fun hb => ?_)
                ·replace h := iteT hb h
                 refine z4 ⟨[(1, (.sl (List.map c_EdgeT all))), (4, (.ptr 500000 0)), (7, (.ptr 500001 0)), (8, (.ptr 500002 0)), (10, (.ptr 500003 0)), (133, (.sl (List.map c_EdgeT all))), (134, (vI (all.length : Int))), (135, (vI s97.1))], [(500000, .box [(vS l.Sheet.Name), (vS l.Sheet.Material), (vI l.Sheet.Gauge), (vI l.Sheet.Grain), (vI l.Sheet.Width), (vI l.Sheet.Height), (.sl (List.map c_Rect l.Sheet.Clamps)), (.sl (List.map c_Rect l.Sheet.Used)), (.sl (List.map c_Piece l.Pieces))]), (500001, .box [(vI x3.Piece), (vI x3.Hole), (vI x3.Joints), (vI x3.Lead.X), (vI x3.Lead.Y)]), (500002, .box [.nl, .nl, .nl, .nl, .nl]), (500003, .box [(.row (.top 500004) 4), (.row (.top 500005) 37), (.row (.top 500006) 4), (.row (.top 500007) 3), (.row (.top 500008) 4)]), (500004, .row 4 [] (List.map cB s97.2)), (500005, .row 37 [] (List.map (cS cB) r28.Holes)), (500006, .row 4 [] (List.map cB (List.set r28.Done (Int.toNat x3.Piece) true))), (500007, .row 3 [] (List.map cI (List.set r28.Joints (Int.toNat x3.Piece) x3.Joints))), (500008, .row 4 [] (List.map cB r28.Fallen))]⟩ (by kernel_rfl) ?_
                 refine sem_seqJ (fun (j117 : (List Bool)) => ⟨[(1, (.sl (List.map c_EdgeT all))), (4, (.ptr 500000 0)), (7, (.ptr 500001 0)), (8, (.ptr 500002 0)), (10, (.ptr 500003 0)), (133, (.sl (List.map c_EdgeT all))), (134, (vI (all.length : Int))), (135, (vI s97.1))], [(500000, .box [(vS l.Sheet.Name), (vS l.Sheet.Material), (vI l.Sheet.Gauge), (vI l.Sheet.Grain), (vI l.Sheet.Width), (vI l.Sheet.Height), (.sl (List.map c_Rect l.Sheet.Clamps)), (.sl (List.map c_Rect l.Sheet.Used)), (.sl (List.map c_Piece l.Pieces))]), (500001, .box [(vI x3.Piece), (vI x3.Hole), (vI x3.Joints), (vI x3.Lead.X), (vI x3.Lead.Y)]), (500002, .box [.nl, .nl, .nl, .nl, .nl]), (500003, .box [(.row (.top 500004) 4), (.row (.top 500005) 37), (.row (.top 500006) 4), (.row (.top 500007) 3), (.row (.top 500008) 4)]), (500004, .row 4 [] (List.map cB j117)), (500005, .row 37 [] (List.map (cS cB) r28.Holes)), (500006, .row 4 [] (List.map cB (List.set r28.Done (Int.toNat x3.Piece) true))), (500007, .row 3 [] (List.map cI (List.set r28.Joints (Int.toNat x3.Piece) x3.Joints))), (500008, .row 4 [] (List.map cB r28.Fallen))]⟩) (cut_do_k_k1 s97) r (by kernel_rfl) (fun j117 h => ?_) ?_
                 ·refine sem_region (by kernel_rfl) ?_
                  refine z6 2 (by kernel_rfl) (fun τ hτ => ?_)
                  obtain rfl := Option.some.inj h
                  exact lk_nextS hτ (here (by kernel_rfl))
                 refine sem_block (by kernel_rfl) ?_
                 refine z7 (by kernel_rfl) ?_
                 refine evs_run 1 (by kernel_rfl) ?_
                 obtain ⟨x119, hx119, h⟩ := bindS h
                 refine evs_op (st_idx (c := c_EdgeT) (l := all) (i := s97.1) (kd := .i64) (sz := 6) (by kernel_rfl) hx119 rfl) ?_
                 refine z1 4 ⟨[(1, (.sl (List.map c_EdgeT all))), (4, (.ptr 500000 0)), (7, (.ptr 500001 0)), (8, (.ptr 500002 0)), (10, (.ptr 500003 0)), (11, (vI s97.1)), (12, (.ptr 12 0)), (133, (.sl (List.map c_EdgeT all))), (134, (vI (all.length : Int))), (135, (vI s97.1))], [(12, .box [(vI x119.Line.X1), (vI x119.Line.Y1), (vI x119.Line.X2), (vI x119.Line.Y2), (vI x119.A), (vI x119.B)]), (500000, .box [(vS l.Sheet.Name), (vS l.Sheet.Material), (vI l.Sheet.Gauge), (vI l.Sheet.Grain), (vI l.Sheet.Width), (vI l.Sheet.Height), (.sl (List.map c_Rect l.Sheet.Clamps)), (.sl (List.map c_Rect l.Sheet.Used)), (.sl (List.map c_Piece l.Pieces))]), (500001, .box [(vI x3.Piece), (vI x3.Hole), (vI x3.Joints), (vI x3.Lead.X), (vI x3.Lead.Y)]), (500002, .box [.nl, .nl, .nl, .nl, .nl]), (500003, .box [(.row (.top 500004) 4), (.row (.top 500005) 37), (.row (.top 500006) 4), (.row (.top 500007) 3), (.row (.top 500008) 4)]), (500004, .row 4 [] (List.map cB s97.2)), (500005, .row 37 [] (List.map (cS cB) r28.Holes)), (500006, .row 4 [] (List.map cB (List.set r28.Done (Int.toNat x3.Piece) true))), (500007, .row 3 [] (List.map cI (List.set r28.Joints (Int.toNat x3.Piece) x3.Joints))), (500008, .row 4 [] (List.map cB r28.Fallen))]⟩ (by kernel_rfl) ?_
                 refine z7 (by kernel_rfl) ?_
                 refine evs_run 3 (by kernel_rfl) ?_
                 obtain ⟨r121, hr121, h⟩ := bindS h
                 refine evs_callP [] (by kernel_rfl) (W.cut_of_k_ok hr121) (by kernel_rfl) (.inl rfl) (by kernel_rfl) ?_
                 refine evs_endS (by kernel_rfl) (fun τ hτ => ?_)
                 refine th_normalS hτ ⟨[(1, (.sl (List.map c_EdgeT all))), (4, (.ptr 500000 0)), (7, (.ptr 500001 0)), (8, (.ptr 500002 0)), (10, (.ptr 500003 0)), (11, (vI s97.1)), (133, (.sl (List.map c_EdgeT all))), (134, (vI (all.length : Int))), (135, (vI s97.1)), (143, (vB r121))], [(500000, .box [(vS l.Sheet.Name), (vS l.Sheet.Material), (vI l.Sheet.Gauge), (vI l.Sheet.Grain), (vI l.Sheet.Width), (vI l.Sheet.Height), (.sl (List.map c_Rect l.Sheet.Clamps)), (.sl (List.map c_Rect l.Sheet.Used)), (.sl (List.map c_Piece l.Pieces))]), (500001, .box [(vI x3.Piece), (vI x3.Hole), (vI x3.Joints), (vI x3.Lead.X), (vI x3.Lead.Y)]), (500002, .box [.nl, .nl, .nl, .nl, .nl]), (500003, .box [(.row (.top 500004) 4), (.row (.top 500005) 37), (.row (.top 500006) 4), (.row (.top 500007) 3), (.row (.top 500008) 4)]), (500004, .row 4 [] (List.map cB s97.2)), (500005, .row 37 [] (List.map (cS cB) r28.Holes)), (500006, .row 4 [] (List.map cB (List.set r28.Done (Int.toNat x3.Piece) true))), (500007, .row 3 [] (List.map cI (List.set r28.Joints (Int.toNat x3.Piece) x3.Joints))), (500008, .row 4 [] (List.map cB r28.Fallen))]⟩ (here (by kernel_rfl)) ?_
                 refine sem_cond r121 (by kernel_rfl) (by kernel_rfl) (fun hb => ?_) (fun hb => ?_)
                 ·replace h := iteT hb h
                  refine sem_region (by kernel_rfl) ?_
                  refine evs_run 3 (by kernel_rfl) ?_
                  obtain ⟨x123, hx123, h⟩ := bindS h
                  refine evs_op (st_idxO (c := cB) (l := s97.2) (i := s97.1) (kd := .i64) (kk := (.top 500004)) (e := 4) (sz := 1) (by kernel_rfl) (by kernel_rfl) hx123 rfl) ?_
                  refine evs_op (st_stO (c := cB) (l := s97.2) (i := (Int.toNat s97.1)) (x := x123) (x' := true) (v := (vB true)) (agg := false) (sz := 1) (kk := (.top 500004)) (e := 4) (off := 0) (J := []) (o := .row 4 [] (List.map cB (List.set s97.2 (Int.toNat s97.1) true))) (by kernel_rfl) (by kernel_rfl) (by kernel_rfl) ((idxS hx123).2) (by kernel_rfl) (by kernel_rfl) (by kernel_rfl)) ?_
                  refine evs_endS (by kernel_rfl) (fun τ hτ => ?_)
                  refine bl_normal ?_
                  exact jk_normal (List.set s97.2 (Int.toNat s97.1) true) h hτ (here (by kernel_rfl))
                 ·replace h := iteF hb h
                  refine sem_skipS (by kernel_rfl) (fun τ hτ => ?_)
                  refine bl_normal ?_
                  exact jk_normal s97.2 h hτ (here (by kernel_rfl))
                ·replace h := iteF hb h
                 refine sem_exitS 1 (by kernel_rfl) rfl (fun τ hτ => ?_)
                 refine th_exit ?_
                 obtain rfl := Option.some.inj h
                 exact lk_outS hτ rfl (subR_prep [] [(500000, 500000), (500002, 500001), (500003, 500002), (500004, 500003), (500005, 500004), (500006, 500005), (500007, 500006), (500008, 500007)] (by kernel_rfl) rfl rfl (by kernel_rfl))
               ·intro x
                rfl
               ·intro τ hτ
                refine bl_hit (by kernel_rfl) ?_
                refine th_normalS hτ ⟨[(1, (.sl (List.map c_EdgeT all))), (4, (.ptr 500000 0)), (8, (.ptr 500001 0)), (10, (.ptr 500002 0))], [(500000, .box [(vS l.Sheet.Name), (vS l.Sheet.Material), (vI l.Sheet.Gauge), (vI l.Sheet.Grain), (vI l.Sheet.Width), (vI l.Sheet.Height), (.sl (List.map c_Rect l.Sheet.Clamps)), (.sl (List.map c_Rect l.Sheet.Used)), (.sl (List.map c_Piece l.Pieces))]), (500001, .box [.nl, .nl, .nl, .nl, .nl]), (500002, .box [(.row (.top 500003) 4), (.row (.top 500004) 37), (.row (.top 500005) 4), (.row (.top 500006) 3), (.row (.top 500007) 4)]), (500003, .row 4 [] (List.map cB x124)), (500004, .row 37 [] (List.map (cS cB) r28.Holes)), (500005, .row 4 [] (List.map cB (List.set r28.Done (Int.toNat x3.Piece) true))), (500006, .row 3 [] (List.map cI (List.set r28.Joints (Int.toNat x3.Piece) x3.Joints))), (500007, .row 4 [] (List.map cB r28.Fallen))]⟩ (here (by kernel_rfl)) ?_
                refine sem_seq (by kernel_rfl) ?_
                refine z7 (by kernel_rfl) ?_
                refine evs_run 2 (by kernel_rfl) ?_
                refine evs_op (st_len (c := c_Piece) (l := l.Pieces) (x := (.sl (List.map c_Piece l.Pieces))) (by kernel_rfl) (by kernel_rfl)) ?_
                refine z1 1 ⟨[(1, (.sl (List.map c_EdgeT all))), (8, (.ptr 500001 0)), (10, (.ptr 500002 0)), (151, (vI (l.Pieces.length : Int))), (152, (vI 0))], [(500001, .box [.nl, .nl, .nl, .nl, .nl]), (500002, .box [(.row (.top 500003) 4), (.row (.top 500004) 37), (.row (.top 500005) 4), (.row (.top 500006) 3), (.row (.top 500007) 4)]), (500003, .row 4 [] (List.map cB x124)), (500004, .row 37 [] (List.map (cS cB) r28.Holes)), (500005, .row 4 [] (List.map cB (List.set r28.Done (Int.toNat x3.Piece) true))), (500006, .row 3 [] (List.map cI (List.set r28.Joints (Int.toNat x3.Piece) x3.Joints))), (500007, .row 4 [] (List.map cB r28.Fallen))]⟩ (by kernel_rfl) ?_
                refine sem_block (by kernel_rfl) ?_
                obtain ⟨x244, hx244, h⟩ := bindS h
                refine sem_loopS (fun (s205 : Int × (List Bool)) => ⟨[(1, (.sl (List.map c_EdgeT all))), (8, (.ptr 500000 0)), (10, (.ptr 500001 0)), (151, (vI (l.Pieces.length : Int))), (152, (vI s205.1))], [(500000, .box [.nl, .nl, .nl, .nl, .nl]), (500001, .box [(.row (.top 500002) 4), (.row (.top 500003) 37), (.row (.top 500004) 4), (.row (.top 500005) 3), (.row (.top 500006) 4)]), (500002, .row 4 [] (List.map cB x124)), (500003, .row 37 [] (List.map (cS cB) r28.Holes)), (500004, .row 4 [] (List.map cB (List.set r28.Done (Int.toNat x3.Piece) true))), (500005, .row 3 [] (List.map cI (List.set r28.Joints (Int.toNat x3.Piece) x3.Joints))), (500006, .row 4 [] (List.map cB s205.2))]⟩) (fun (x244 : (List Bool)) => (.exit 3, ⟨[(8, (.ptr 500000 0)), (10, (.ptr 500001 0))], [(500000, .box [.nl, .nl, .nl, .nl, .nl]), (500001, .box [(.row (.top 500002) 4), (.row (.top 500003) 37), (.row (.top 500004) 4), (.row (.top 500005) 3), (.row (.top 500006) 4)]), (500002, .row 4 [] (List.map cB x124)), (500003, .row 37 [] (List.map (cS cB) r28.Holes)), (500004, .row 4 [] (List.map cB (List.set r28.Done (Int.toNat x3.Piece) true))), (500005, .row 3 [] (List.map cI (List.set r28.Joints (Int.toNat x3.Piece) x3.Joints))), (500006, .row 4 [] (List.map cB x244))]⟩)) (cut_do_k_l4 l all x3 r28 x124) (0, r28.Fallen) x244 (by kernel_rfl) (subR_prep [] [(500001, 500000), (500002, 500001), (500003, 500002), (500004, 500003), (500005, 500004), (500006, 500005), (500007, 500006)] (by kernel_rfl) rfl rfl (by kernel_rfl)) (iter_loop hx244) ?_ ?_ ?_
                ·intro s205 r h
                 refine z3 1 ⟨[(1, (.sl (List.map c_EdgeT all))), (8, (.ptr 500000 0)), (10, (.ptr 500001 0)), (151, (vI (l.Pieces.length : Int))), (152, (vI s205.1)), (153, (vB (decide (s205.1 < (l.Pieces.length : Int)))))], [(500000, .box [.nl, .nl, .nl, .nl, .nl]), (500001, .box [(.row (.top 500002) 4), (.row (.top 500003) 37), (.row (.top 500004) 4), (.row (.top 500005) 3), (.row (.top 500006) 4)]), (500002, .row 4 [] (List.map cB x124)), (500003, .row 37 [] (List.map (cS cB) r28.Holes)), (500004, .row 4 [] (List.map cB (List.set r28.Done (Int.toNat x3.Piece) true))), (500005, .row 3 [] (List.map cI (List.set r28.Joints (Int.toNat x3.Piece) x3.Joints))), (500006, .row 4 [] (List.map cB s205.2))]⟩ (by kernel_rfl) ?_
                 refine sem_seq (by kernel_rfl) ?_
                 refine sem_cond (decide (s205.1 < (l.Pieces.length : Int))) (by kernel_rfl) (by kernel_rfl) (fun hb => ?_) (fun hb => ?_)
                 ·replace h := iteT hb h
                  refine z4 ⟨[(1, (.sl (List.map c_EdgeT all))), (8, (.ptr 500000 0)), (10, (.ptr 500001 0)), (151, (vI (l.Pieces.length : Int))), (152, (vI s205.1))], [(500000, .box [.nl, .nl, .nl, .nl, .nl]), (500001, .box [(.row (.top 500002) 4), (.row (.top 500003) 37), (.row (.top 500004) 4), (.row (.top 500005) 3), (.row (.top 500006) 4)]), (500002, .row 4 [] (List.map cB x124)), (500003, .row 37 [] (List.map (cS cB) r28.Holes)), (500004, .row 4 [] (List.map cB (List.set r28.Done (Int.toNat x3.Piece) true))), (500005, .row 3 [] (List.map cI (List.set r28.Joints (Int.toNat x3.Piece) x3.Joints))), (500006, .row 4 [] (List.map cB s205.2))]⟩ (by kernel_rfl) ?_
                  refine sem_seqJ (fun (j234 : (List Bool)) => ⟨[(1, (.sl (List.map c_EdgeT all))), (8, (.ptr 500000 0)), (10, (.ptr 500001 0)), (151, (vI (l.Pieces.length : Int))), (152, (vI s205.1))], [(500000, .box [.nl, .nl, .nl, .nl, .nl]), (500001, .box [(.row (.top 500002) 4), (.row (.top 500003) 37), (.row (.top 500004) 4), (.row (.top 500005) 3), (.row (.top 500006) 4)]), (500002, .row 4 [] (List.map cB x124)), (500003, .row 37 [] (List.map (cS cB) r28.Holes)), (500004, .row 4 [] (List.map cB (List.set r28.Done (Int.toNat x3.Piece) true))), (500005, .row 3 [] (List.map cI (List.set r28.Joints (Int.toNat x3.Piece) x3.Joints))), (500006, .row 4 [] (List.map cB j234))]⟩) (cut_do_k_k3 s205) r (by kernel_rfl) (fun j234 h => ?_) ?_
                  ·refine sem_region (by kernel_rfl) ?_
                   refine z6 2 (by kernel_rfl) (fun τ hτ => ?_)
                   obtain rfl := Option.some.inj h
                   exact lk_nextS hτ (here (by kernel_rfl))
                  refine sem_block (by kernel_rfl) ?_
                  refine z3 2 ⟨[(1, (.sl (List.map c_EdgeT all))), (8, (.ptr 500000 0)), (10, (.ptr 500001 0)), (13, (vI s205.1)), (151, (vI (l.Pieces.length : Int))), (152, (vI s205.1))], [(500000, .box [.nl, .nl, .nl, .nl, .nl]), (500001, .box [(.row (.top 500002) 4), (.row (.top 500003) 37), (.row (.top 500004) 4), (.row (.top 500005) 3), (.row (.top 500006) 4)]), (500002, .row 4 [] (List.map cB x124)), (500003, .row 37 [] (List.map (cS cB) r28.Holes)), (500004, .row 4 [] (List.map cB (List.set r28.Done (Int.toNat x3.Piece) true))), (500005, .row 3 [] (List.map cI (List.set r28.Joints (Int.toNat x3.Piece) x3.Joints))), (500006, .row 4 [] (List.map cB s205.2))]⟩ (by kernel_rfl) ?_
                  refine sem_seq (by kernel_rfl) ?_
                  obtain ⟨j238, hj238, h⟩ := bindS h
                  refine sem_regionC ⟨[(1, (.sl (List.map c_EdgeT all))), (8, (.ptr 500000 0)), (10, (.ptr 500001 0)), (13, (vI s205.1)), (151, (vI (l.Pieces.length : Int))), (152, (vI s205.1)), (174, (vB j238))], [(500000, .box [.nl, .nl, .nl, .nl, .nl]), (500001, .box [(.row (.top 500002) 4), (.row (.top 500003) 37), (.row (.top 500004) 4), (.row (.top 500005) 3), (.row (.top 500006) 4)]), (500002, .row 4 [] (List.map cB x124)), (500003, .row 37 [] (List.map (cS cB) r28.Holes)), (500004, .row 4 [] (List.map cB (List.set r28.Done (Int.toNat x3.Piece) true))), (500005, .row 3 [] (List.map cI (List.set r28.Joints (Int.toNat x3.Piece) x3.Joints))), (500006, .row 4 [] (List.map cB s205.2))]⟩ (by kernel_rfl) ?_ (fun τ hτ => ?_)
                  ·replace h := hj238
                   refine evs_run 3 (by kernel_rfl) ?_
                   obtain ⟨r239, hr239, h⟩ := bindS h
                   refine evs_callP [500002, 500003, 500004, 500005, 500006] (by kernel_rfl) (W.cut_State_free_k_ok hr239) (by kernel_rfl) (.inr rfl) (by kernel_rfl) ?_
                   refine evs_run 1 (by kernel_rfl) ?_
                   refine evs_split r239 (fun b0 => ⟨[(1, (.sl (List.map c_EdgeT all))), (8, (.ptr 500000 0)), (10, (.ptr 500001 0)), (13, (vI s205.1)), (151, (vI (l.Pieces.length : Int))), (152, (vI s205.1)), (159, (vB b0))], [(500000, .box [.nl, .nl, .nl, .nl, .nl]), (500001, .box [(.row (.top 500002) 4), (.row (.top 500003) 37), (.row (.top 500004) 4), (.row (.top 500005) 3), (.row (.top 500006) 4)]), (500002, .row 4 [] (List.map cB x124)), (500003, .row 37 [] (List.map (cS cB) r28.Holes)), (500004, .row 4 [] (List.map cB (List.set r28.Done (Int.toNat x3.Piece) true))), (500005, .row 3 [] (List.map cI (List.set r28.Joints (Int.toNat x3.Piece) x3.Joints))), (500006, .row 4 [] (List.map cB s205.2))]⟩) (by kernel_rfl) (fun hb => ?_) (fun hb => ?_)
                   ·replace h := iteT hb h
                    refine evs_run 3 (by kernel_rfl) ?_
                    obtain ⟨x240, hx240, h⟩ := bindS h
                    refine evs_op (st_idxO (c := cB) (l := (List.set r28.Done (Int.toNat x3.Piece) true)) (i := s205.1) (kd := .i64) (kk := (.top 500004)) (e := 4) (sz := 1) (by kernel_rfl) (by kernel_rfl) hx240 rfl) ?_
                    refine evs_op (st_ldO (c := cB) (l := (List.set r28.Done (Int.toNat x3.Piece) true)) (i := (Int.toNat s205.1)) (v := (vB x240)) (agg := false) (sz := 1) (kk := (.top 500004)) (e := 4) (off := 0) (J := []) (by kernel_rfl) (by kernel_rfl) (by kernel_rfl) ((idxS hx240).2) (by kernel_rfl)) ?_
                    refine evs_run 1 (by kernel_rfl) ?_
                    refine evs_split x240 (fun b0 => ⟨[(1, (.sl (List.map c_EdgeT all))), (8, (.ptr 500000 0)), (10, (.ptr 500001 0)), (13, (vI s205.1)), (151, (vI (l.Pieces.length : Int))), (152, (vI s205.1)), (159, (vB true)), (160, (.ptr 500001 2)), (161, (.row (.top 500004) 4)), (162, (vI s205.1)), (163, (.rptr (.top 500004) 4 (Int.toNat s205.1) 0)), (164, (vB b0)), (165, (vB b0))], [(500000, .box [.nl, .nl, .nl, .nl, .nl]), (500001, .box [(.row (.top 500002) 4), (.row (.top 500003) 37), (.row (.top 500004) 4), (.row (.top 500005) 3), (.row (.top 500006) 4)]), (500002, .row 4 [] (List.map cB x124)), (500003, .row 37 [] (List.map (cS cB) r28.Holes)), (500004, .row 4 [] (List.map cB (List.set r28.Done (Int.toNat x3.Piece) true))), (500005, .row 3 [] (List.map cI (List.set r28.Joints (Int.toNat x3.Piece) x3.Joints))), (500006, .row 4 [] (List.map cB s205.2))]⟩) (by kernel_rfl) (fun hb => ?_) (fun hb => ?_)
                    ·replace h := iteT hb h
                     refine evs_run 3 (by kernel_rfl) ?_
                     obtain ⟨x241, hx241, h⟩ := bindS h
                     refine evs_op (st_idxO (c := cI) (l := (List.set r28.Joints (Int.toNat x3.Piece) x3.Joints)) (i := s205.1) (kd := .i64) (kk := (.top 500005)) (e := 3) (sz := 1) (by kernel_rfl) (by kernel_rfl) hx241 rfl) ?_
                     refine evs_op (st_ldO (c := cI) (l := (List.set r28.Joints (Int.toNat x3.Piece) x3.Joints)) (i := (Int.toNat s205.1)) (v := (vI x241)) (agg := false) (sz := 1) (kk := (.top 500005)) (e := 3) (off := 0) (J := []) (by kernel_rfl) (by kernel_rfl) (by kernel_rfl) ((idxS hx241).2) (by kernel_rfl)) ?_
                     refine z6 4 (by kernel_rfl) (fun τ hτ => ?_)
                     obtain rfl := Option.some.inj h
                     exact leafC hτ (here (by kernel_rfl))
                    ·replace h := iteF hb h
                     refine z6 9 (by kernel_rfl) (fun τ hτ => ?_)
                     obtain rfl := Option.some.inj h
                     exact leafC hτ (here (by kernel_rfl))
                   ·replace h := iteF hb h
                    refine z6 15 (by kernel_rfl) (fun τ hτ => ?_)
                    obtain rfl := Option.some.inj h
                    exact leafC hτ (here (by kernel_rfl))
                  refine th_normalS hτ ⟨[(1, (.sl (List.map c_EdgeT all))), (8, (.ptr 500000 0)), (10, (.ptr 500001 0)), (13, (vI s205.1)), (151, (vI (l.Pieces.length : Int))), (152, (vI s205.1)), (174, (vB j238))], [(500000, .box [.nl, .nl, .nl, .nl, .nl]), (500001, .box [(.row (.top 500002) 4), (.row (.top 500003) 37), (.row (.top 500004) 4), (.row (.top 500005) 3), (.row (.top 500006) 4)]), (500002, .row 4 [] (List.map cB x124)), (500003, .row 37 [] (List.map (cS cB) r28.Holes)), (500004, .row 4 [] (List.map cB (List.set r28.Done (Int.toNat x3.Piece) true))), (500005, .row 3 [] (List.map cI (List.set r28.Joints (Int.toNat x3.Piece) x3.Joints))), (500006, .row 4 [] (List.map cB s205.2))]⟩ (here (by kernel_rfl)) ?_
                  refine sem_cond j238 (by kernel_rfl) (by kernel_rfl) (fun hb => ?_) (fun hb => ?_)
                  ·replace h := iteT hb h
                   refine sem_region (by kernel_rfl) ?_
                   refine evs_run 3 (by kernel_rfl) ?_
                   obtain ⟨x243, hx243, h⟩ := bindS h
                   refine evs_op (st_idxO (c := cB) (l := s205.2) (i := s205.1) (kd := .i64) (kk := (.top 500006)) (e := 4) (sz := 1) (by kernel_rfl) (by kernel_rfl) hx243 rfl) ?_
                   refine evs_op (st_stO (c := cB) (l := s205.2) (i := (Int.toNat s205.1)) (x := x243) (x' := true) (v := (vB true)) (agg := false) (sz := 1) (kk := (.top 500006)) (e := 4) (off := 0) (J := []) (o := .row 4 [] (List.map cB (List.set s205.2 (Int.toNat s205.1) true))) (by kernel_rfl) (by kernel_rfl) (by kernel_rfl) ((idxS hx243).2) (by kernel_rfl) (by kernel_rfl) (by kernel_rfl)) ?_
                   refine evs_endS (by kernel_rfl) (fun τ hτ => ?_)
                   refine bl_normal ?_
                   exact jk_normal (List.set s205.2 (Int.toNat s205.1) true) h hτ (here (by kernel_rfl))
                  ·replace h := iteF hb h
                   refine sem_skipS (by kernel_rfl) (fun τ hτ => ?_)
                   refine bl_normal ?_
                   exact jk_normal s205.2 h hτ (here (by kernel_rfl))
                 ·replace h := iteF hb h
                  refine sem_exitS 3 (by kernel_rfl) rfl (fun τ hτ => ?_)
                  refine th_exit ?_
                  obtain rfl := Option.some.inj h
                  exact lk_outS hτ rfl (here (by kernel_rfl))
                ·intro x
                 rfl
                ·intro τ hτ
                 refine bl_hit (by kernel_rfl) ?_
                 refine th_normalS hτ ⟨[(8, (.ptr 500000 0)), (10, (.ptr 500001 0))], [(500000, .box [.nl, .nl, .nl, .nl, .nl]), (500001, .box [(.row (.top 500002) 4), (.row (.top 500003) 37), (.row (.top 500004) 4), (.row (.top 500005) 3), (.row (.top 500006) 4)]), (500002, .row 4 [] (List.map cB x124)), (500003, .row 37 [] (List.map (cS cB) r28.Holes)), (500004, .row 4 [] (List.map cB (List.set r28.Done (Int.toNat x3.Piece) true))), (500005, .row 3 [] (List.map cI (List.set r28.Joints (Int.toNat x3.Piece) x3.Joints))), (500006, .row 4 [] (List.map cB x244))]⟩ (here (by kernel_rfl)) ?_
                 refine z8 3 ⟨[(8, (.ptr 500000 0)), (9, (vI 0))], [(500000, .box [(.row (.top 500002) 4), (.row (.top 500003) 37), (.row (.top 500004) 4), (.row (.top 500005) 3), (.row (.top 500006) 4)]), (500002, .row 4 [] (List.map cB x124)), (500003, .row 37 [] (List.map (cS cB) r28.Holes)), (500004, .row 4 [] (List.map cB (List.set r28.Done (Int.toNat x3.Piece) true))), (500005, .row 3 [] (List.map cI (List.set r28.Joints (Int.toNat x3.Piece) x3.Joints))), (500006, .row 4 [] (List.map cB x244))]⟩ (by kernel_rfl) (fun τ hτ => ?_)
                 obtain rfl := Option.some.inj h
                 exact rk_ret hτ [(8, (.ptr 0 0)), (9, (vI 0))] (subR_prep [] [(500000, 0), (500002, 1), (500003, 2), (500004, 3), (500005, 4), (500006, 5)] (by kernel_rfl) rfl rfl (by kernel_rfl)) (by kernel_rfl)
           ·replace h := iteF hb h
            exact nomatch h
          ·replace h := iteF hb h
           exact nomatch h
 ·replace h := iteF hb h
  exact nomatch h
theorem W.cut_Falls_1_k'_ok {st : cut_State} {h0_0 : (List Bool)} {h2 : (List (List Int))} {r : (List (List Int))} (h : cut_Falls_1_k' st h0_0 h2 = some r) : PC G.P 32 [(.agg [(.sl (List.map cB st.Cut)), (.sl (List.map (cS cB) st.Holes)), (.sl (List.map cB st.Done)), (.sl (List.map cI st.Joints)), (.sl (List.map cB st.Fallen))]), (.ptr 1000000 0), (.ptr 1000001 0)] [(1000000, .box [(.sl (List.map cB h0_0))]), (1000001, .box [(.row (.top 300002) 39)]), (300002, .row 39 [] (List.map (cS cI) h2))] (.tup []) [(0, .row 39 [] (List.map (cS cI) r)), (1000000, .box [(.sl (List.map cB st.Fallen))]), (1000001, .box [(.row (.top 0) 39)])] := by
 refine pc_of G (fn := Try.f32) Try.func32 (by kernel_rfl) (by kernel_rfl) (by kernel_rfl) (by kernel_rfl) (by kernel_rfl) ?_
 refine sem_set ⟨[(0, (.agg [(.sl (List.map cB st.Cut)), (.sl (List.map (cS cB) st.Holes)), (.sl (List.map cB st.Done)), (.sl (List.map cI st.Joints)), (.sl (List.map cB st.Fallen))])), (1, (.ptr 1000000 0)), (2, (.ptr 1000001 0))], [(300002, .row 39 [] (List.map (cS cI) h2)), (1000000, .box [(.sl (List.map cB h0_0))]), (1000001, .box [(.row (.top 300002) 39)])]⟩ (by kernel_rfl) ?_
 refine z3 1 ⟨[(1, (.ptr 1000000 0)), (2, (.ptr 1000001 0)), (3, (.ptr 3 0))], [(3, .box [(.sl (List.map cB st.Cut)), (.sl (List.map (cS cB) st.Holes)), (.sl (List.map cB st.Done)), (.sl (List.map cI st.Joints)), (.sl (List.map cB st.Fallen))]), (300002, .row 39 [] (List.map (cS cI) h2)), (1000000, .box [(.sl (List.map cB h0_0))]), (1000001, .box [(.row (.top 300002) 39)])]⟩ (by kernel_rfl) ?_
 refine z3 1 ⟨[(1, (.ptr 1000000 0)), (2, (.ptr 1000001 0)), (3, (.ptr 3 0)), (4, (.row (.top 4) 3))], [(3, .box [(.sl (List.map cB st.Cut)), (.sl (List.map (cS cB) st.Holes)), (.sl (List.map cB st.Done)), (.sl (List.map cI st.Joints)), (.sl (List.map cB st.Fallen))]), (4, .row 3 [] (List.map cI [])), (300002, .row 39 [] (List.map (cS cI) h2)), (1000000, .box [(.sl (List.map cB h0_0))]), (1000001, .box [(.row (.top 300002) 39)])]⟩ (by kernel_rfl) ?_
 refine sem_seq (by kernel_rfl) ?_
 refine z7 (by kernel_rfl) ?_
 refine evs_run 2 (by kernel_rfl) ?_
 refine evs_op (st_len (c := cB) (l := st.Fallen) (x := (.sl (List.map cB st.Fallen))) (by kernel_rfl) (by kernel_rfl)) ?_
 refine z1 1 ⟨[(1, (.ptr 1000000 0)), (2, (.ptr 1000001 0)), (3, (.ptr 3 0)), (4, (.row (.top 4) 3)), (8, (.sl (List.map cB st.Fallen))), (9, (vI (st.Fallen.length : Int))), (10, (vI 0))], [(3, .box [(.sl (List.map cB st.Cut)), (.sl (List.map (cS cB) st.Holes)), (.sl (List.map cB st.Done)), (.sl (List.map cI st.Joints)), (.sl (List.map cB st.Fallen))]), (4, .row 3 [] (List.map cI [])), (300002, .row 39 [] (List.map (cS cI) h2)), (1000000, .box [(.sl (List.map cB h0_0))]), (1000001, .box [(.row (.top 300002) 39)])]⟩ (by kernel_rfl) ?_
 refine sem_block (by kernel_rfl) ?_
 obtain ⟨x96, hx96, h⟩ := bindS h
 refine sem_loopS (fun (s65 : Int × (List Int)) => ⟨[(1, (.ptr 1000000 0)), (2, (.ptr 1000001 0)), (3, (.ptr 500001 0)), (4, (.row (.top 500002) 3)), (8, (.sl (List.map cB st.Fallen))), (9, (vI (st.Fallen.length : Int))), (10, (vI s65.1))], [(500000, .row 39 [] (List.map (cS cI) h2)), (500001, .box [(.sl (List.map cB st.Cut)), (.sl (List.map (cS cB) st.Holes)), (.sl (List.map cB st.Done)), (.sl (List.map cI st.Joints)), (.sl (List.map cB st.Fallen))]), (500002, .row 3 [] (List.map cI s65.2)), (1000000, .box [(.sl (List.map cB h0_0))]), (1000001, .box [(.row (.top 500000) 39)])]⟩) (fun (x96 : (List Int)) => (.exit 0, ⟨[(1, (.ptr 1000000 0)), (2, (.ptr 1000001 0)), (3, (.ptr 500001 0)), (4, (.row (.top 500002) 3))], [(500000, .row 39 [] (List.map (cS cI) h2)), (500001, .box [(.sl (List.map cB st.Cut)), (.sl (List.map (cS cB) st.Holes)), (.sl (List.map cB st.Done)), (.sl (List.map cI st.Joints)), (.sl (List.map cB st.Fallen))]), (500002, .row 3 [] (List.map cI x96)), (1000000, .box [(.sl (List.map cB h0_0))]), (1000001, .box [(.row (.top 500000) 39)])]⟩)) (cut_Falls_1_k'_l2 st h0_0) (0, []) x96 (by kernel_rfl) (subR_prep [] [(3, 500001), (4, 500002), (300002, 500000), (1000000, 1000000), (1000001, 1000001)] (by kernel_rfl) rfl rfl (by kernel_rfl)) (iter_loop hx96) ?_ ?_ ?_
 ·intro s65 r h
  refine z3 1 ⟨[(1, (.ptr 1000000 0)), (2, (.ptr 1000001 0)), (3, (.ptr 500001 0)), (4, (.row (.top 500002) 3)), (8, (.sl (List.map cB st.Fallen))), (9, (vI (st.Fallen.length : Int))), (10, (vI s65.1)), (11, (vB (decide (s65.1 < (st.Fallen.length : Int)))))], [(500000, .row 39 [] (List.map (cS cI) h2)), (500001, .box [(.sl (List.map cB st.Cut)), (.sl (List.map (cS cB) st.Holes)), (.sl (List.map cB st.Done)), (.sl (List.map cI st.Joints)), (.sl (List.map cB st.Fallen))]), (500002, .row 3 [] (List.map cI s65.2)), (1000000, .box [(.sl (List.map cB h0_0))]), (1000001, .box [(.row (.top 500000) 39)])]⟩ (by kernel_rfl) ?_
  refine sem_seq (by kernel_rfl) ?_
  refine sem_cond (decide (s65.1 < (st.Fallen.length : Int))) (by kernel_rfl) (by kernel_rfl) (fun hb => ?_) (fun hb => ?_)
  ·replace h := iteT hb h
   refine z4 ⟨[(1, (.ptr 1000000 0)), (2, (.ptr 1000001 0)), (3, (.ptr 500001 0)), (4, (.row (.top 500002) 3)), (8, (.sl (List.map cB st.Fallen))), (9, (vI (st.Fallen.length : Int))), (10, (vI s65.1))], [(500000, .row 39 [] (List.map (cS cI) h2)), (500001, .box [(.sl (List.map cB st.Cut)), (.sl (List.map (cS cB) st.Holes)), (.sl (List.map cB st.Done)), (.sl (List.map cI st.Joints)), (.sl (List.map cB st.Fallen))]), (500002, .row 3 [] (List.map cI s65.2)), (1000000, .box [(.sl (List.map cB h0_0))]), (1000001, .box [(.row (.top 500000) 39)])]⟩ (by kernel_rfl) ?_
   refine sem_seqJ (fun (j88 : (List Int)) => ⟨[(1, (.ptr 1000000 0)), (2, (.ptr 1000001 0)), (3, (.ptr 500001 0)), (4, (.row (.top 500002) 3)), (8, (.sl (List.map cB st.Fallen))), (9, (vI (st.Fallen.length : Int))), (10, (vI s65.1))], [(500000, .row 39 [] (List.map (cS cI) h2)), (500001, .box [(.sl (List.map cB st.Cut)), (.sl (List.map (cS cB) st.Holes)), (.sl (List.map cB st.Done)), (.sl (List.map cI st.Joints)), (.sl (List.map cB st.Fallen))]), (500002, .row 3 [] (List.map cI j88)), (1000000, .box [(.sl (List.map cB h0_0))]), (1000001, .box [(.row (.top 500000) 39)])]⟩) (cut_Falls_1_k'_k1 s65) r (by kernel_rfl) (fun j88 h => ?_) ?_
   ·refine sem_region (by kernel_rfl) ?_
    refine z6 2 (by kernel_rfl) (fun τ hτ => ?_)
    obtain rfl := Option.some.inj h
    exact lk_nextS hτ (here (by kernel_rfl))
   refine sem_block (by kernel_rfl) ?_
   refine z7 (by kernel_rfl) ?_
   refine evs_run 1 (by kernel_rfl) ?_
   obtain ⟨x90, hx90, h⟩ := bindS h
   refine evs_op (st_idx (c := cB) (l := st.Fallen) (i := s65.1) (kd := .i64) (sz := 1) (by kernel_rfl) hx90 rfl) ?_
   refine z1 3 ⟨[(1, (.ptr 1000000 0)), (2, (.ptr 1000001 0)), (3, (.ptr 500001 0)), (4, (.row (.top 500002) 3)), (5, (vI s65.1)), (6, (vB x90)), (8, (.sl (List.map cB st.Fallen))), (9, (vI (st.Fallen.length : Int))), (10, (vI s65.1))], [(500000, .row 39 [] (List.map (cS cI) h2)), (500001, .box [(.sl (List.map cB st.Cut)), (.sl (List.map (cS cB) st.Holes)), (.sl (List.map cB st.Done)), (.sl (List.map cI st.Joints)), (.sl (List.map cB st.Fallen))]), (500002, .row 3 [] (List.map cI s65.2)), (1000000, .box [(.sl (List.map cB h0_0))]), (1000001, .box [(.row (.top 500000) 39)])]⟩ (by kernel_rfl) ?_
   refine sem_seq (by kernel_rfl) ?_
   obtain ⟨j92, hj92, h⟩ := bindS h
   refine sem_regionC ⟨[(1, (.ptr 1000000 0)), (2, (.ptr 1000001 0)), (3, (.ptr 500001 0)), (4, (.row (.top 500002) 3)), (5, (vI s65.1)), (8, (.sl (List.map cB st.Fallen))), (9, (vI (st.Fallen.length : Int))), (10, (vI s65.1)), (22, (vB j92))], [(500000, .row 39 [] (List.map (cS cI) h2)), (500001, .box [(.sl (List.map cB st.Cut)), (.sl (List.map (cS cB) st.Holes)), (.sl (List.map cB st.Done)), (.sl (List.map cI st.Joints)), (.sl (List.map cB st.Fallen))]), (500002, .row 3 [] (List.map cI s65.2)), (1000000, .box [(.sl (List.map cB h0_0))]), (1000001, .box [(.row (.top 500000) 39)])]⟩ (by kernel_rfl) ?_ (fun τ hτ => ?_)
   ·replace h := hj92
    refine evs_run 2 (by kernel_rfl) ?_
    refine evs_split x90 (fun b0 => ⟨[(1, (.ptr 1000000 0)), (2, (.ptr 1000001 0)), (3, (.ptr 500001 0)), (4, (.row (.top 500002) 3)), (5, (vI s65.1)), (8, (.sl (List.map cB st.Fallen))), (9, (vI (st.Fallen.length : Int))), (10, (vI s65.1)), (16, (vB b0))], [(500000, .row 39 [] (List.map (cS cI) h2)), (500001, .box [(.sl (List.map cB st.Cut)), (.sl (List.map (cS cB) st.Holes)), (.sl (List.map cB st.Done)), (.sl (List.map cI st.Joints)), (.sl (List.map cB st.Fallen))]), (500002, .row 3 [] (List.map cI s65.2)), (1000000, .box [(.sl (List.map cB h0_0))]), (1000001, .box [(.row (.top 500000) 39)])]⟩) (by kernel_rfl) (fun hb => ?_) (fun hb => ?_)
    ·replace h := iteT hb h
     refine evs_run 2 (by kernel_rfl) ?_
     obtain ⟨x93, hx93, h⟩ := bindS h
     refine evs_op (st_idx (c := cB) (l := h0_0) (i := s65.1) (kd := .i64) (sz := 1) (by kernel_rfl) hx93 rfl) ?_
     refine z6 3 (by kernel_rfl) (fun τ hτ => ?_)
     obtain rfl := Option.some.inj h
     exact leafC hτ (here (by kernel_rfl))
    ·replace h := iteF hb h
     refine z6 6 (by kernel_rfl) (fun τ hτ => ?_)
     obtain rfl := Option.some.inj h
     exact leafC hτ (here (by kernel_rfl))
   refine th_normalS hτ ⟨[(1, (.ptr 1000000 0)), (2, (.ptr 1000001 0)), (3, (.ptr 500001 0)), (4, (.row (.top 500002) 3)), (5, (vI s65.1)), (8, (.sl (List.map cB st.Fallen))), (9, (vI (st.Fallen.length : Int))), (10, (vI s65.1)), (22, (vB j92))], [(500000, .row 39 [] (List.map (cS cI) h2)), (500001, .box [(.sl (List.map cB st.Cut)), (.sl (List.map (cS cB) st.Holes)), (.sl (List.map cB st.Done)), (.sl (List.map cI st.Joints)), (.sl (List.map cB st.Fallen))]), (500002, .row 3 [] (List.map cI s65.2)), (1000000, .box [(.sl (List.map cB h0_0))]), (1000001, .box [(.row (.top 500000) 39)])]⟩ (here (by kernel_rfl)) ?_
   refine sem_cond j92 (by kernel_rfl) (by kernel_rfl) (fun hb => ?_) (fun hb => ?_)
   ·replace h := iteT hb h
    refine sem_region (by kernel_rfl) ?_
    refine evs_run 3 (by kernel_rfl) ?_
    obtain ⟨l95, hl95, h⟩ := bindS h
    refine evs_op (st_app (c := cI) (l := s65.2) (l2 := [s65.1]) (x := (.sl (List.map cI [s65.1]))) (g := 500002) (e := 3) (sz := 1) (d := 26) (by kernel_rfl) (by kernel_rfl) (by kernel_rfl) (by kernel_rfl) (fun _ => rfl) rfl hl95) ?_
    refine z6 1 (by kernel_rfl) (fun τ hτ => ?_)
    refine bl_normal ?_
    exact jk_normal l95 h hτ (here (by kernel_rfl))
   ·replace h := iteF hb h
    refine sem_skipS (by kernel_rfl) (fun τ hτ => ?_)
    refine bl_normal ?_
    exact jk_normal s65.2 h hτ (here (by kernel_rfl))
  ·replace h := iteF hb h
   refine sem_exitS 0 (by kernel_rfl) rfl (fun τ hτ => ?_)
   refine th_exit ?_
   obtain rfl := Option.some.inj h
   exact lk_outS hτ rfl (here (by kernel_rfl))
 ·intro x
  rfl
 ·intro τ hτ
  refine bl_hit (by kernel_rfl) ?_
  refine th_normalS hτ ⟨[(1, (.ptr 1000000 0)), (2, (.ptr 1000001 0)), (3, (.ptr 500001 0)), (4, (.row (.top 500002) 3))], [(500000, .row 39 [] (List.map (cS cI) h2)), (500001, .box [(.sl (List.map cB st.Cut)), (.sl (List.map (cS cB) st.Holes)), (.sl (List.map cB st.Done)), (.sl (List.map cI st.Joints)), (.sl (List.map cB st.Fallen))]), (500002, .row 3 [] (List.map cI x96)), (1000000, .box [(.sl (List.map cB h0_0))]), (1000001, .box [(.row (.top 500000) 39)])]⟩ (here (by kernel_rfl)) ?_
  refine z7 (by kernel_rfl) ?_
  refine evs_run 2 (by kernel_rfl) ?_
  refine evs_prep [.frz 500002] (by kernel_rfl) ?_
  refine evs_run 1 (by kernel_rfl) ?_
  obtain ⟨l98, hl98, h⟩ := bindS h
  refine evs_op (st_app (c := (cS cI)) (l := h2) (l2 := [x96]) (x := (.sl (List.map (cS cI) [x96]))) (g := 500000) (e := 39) (sz := 1) (d := 31) (by kernel_rfl) (by kernel_rfl) (by kernel_rfl) (by kernel_rfl) (fun _ => rfl) rfl hl98) ?_
  refine z1 1 ⟨[(1, (.ptr 1000000 0)), (3, (.ptr 500001 0))], [(500000, .row 39 [] (List.map (cS cI) l98)), (500001, .box [(.sl (List.map cB st.Cut)), (.sl (List.map (cS cB) st.Holes)), (.sl (List.map cB st.Done)), (.sl (List.map cI st.Joints)), (.sl (List.map cB st.Fallen))]), (1000000, .box [(.sl (List.map cB h0_0))]), (1000001, .box [(.row (.top 500000) 39)])]⟩ (by kernel_rfl) ?_
  refine sem_region (by kernel_rfl) ?_
  refine z6 3 (by kernel_rfl) (fun τ hτ => ?_)
  obtain rfl := Option.some.inj h
  exact rk_normal hτ [] (subR_prep [] [(500000, 0), (1000000, 1000000), (1000001, 1000001)] (by kernel_rfl) rfl rfl (by kernel_rfl)) (by kernel_rfl)
theorem W.cut_run__cut_Falls_1_k_ok {l : LayoutT} {items : (List ItemT)} {h1 : (List Bool)} {h3 : (List (List Int))} {r : cut_State × Int × Int × (List Bool) × (List (List Bool)) × (List Bool) × (List Int) × (List Bool) × (List (List Int)) × (List Bool)} (h : cut_run__cut_Falls_1_k l items h1 h3 = some r) : PC G.P 27 [(.agg [(vS l.Sheet.Name), (vS l.Sheet.Material), (vI l.Sheet.Gauge), (vI l.Sheet.Grain), (vI l.Sheet.Width), (vI l.Sheet.Height), (.sl (List.map c_Rect l.Sheet.Clamps)), (.sl (List.map c_Rect l.Sheet.Used)), (.sl (List.map c_Piece l.Pieces))]), (.sl (List.map c_ItemT items)), (.fn 32 [(.ptr 1000000 0), (.ptr 1000002 0)])] [(1000000, .box [(.row (.top 300001) 4)]), (300001, .row 4 [] (List.map cB h1)), (1000002, .box [(.row (.top 300003) 39)]), (300003, .row 39 [] (List.map (cS cI) h3))] (.tup [(.agg [(.sl (List.map cB r.1.Cut)), (.sl (List.map (cS cB) r.1.Holes)), (.sl (List.map cB r.1.Done)), (.sl (List.map cI r.1.Joints)), (.sl (List.map cB r.1.Fallen))]), (vI r.2.1), (vI r.2.2.1)]) [(0, .box [(.sl (List.map cB r.2.2.2.1)), (.sl (List.map (cS cB) r.2.2.2.2.1)), (.sl (List.map cB r.2.2.2.2.2.1)), (.sl (List.map cI r.2.2.2.2.2.2.1)), (.sl (List.map cB r.2.2.2.2.2.2.2.1))]), (1, .row 39 [] (List.map (cS cI) r.2.2.2.2.2.2.2.2.1)), (1000000, .box [(.sl (List.map cB r.2.2.2.2.2.2.2.2.2))]), (1000002, .box [(.row (.top 1) 39)])] := by
 refine pc_of G (fn := Try.f27) Try.func27 (by kernel_rfl) (by kernel_rfl) (by kernel_rfl) (by kernel_rfl) (by kernel_rfl) ?_
 refine sem_set ⟨[(0, (.agg [(vS l.Sheet.Name), (vS l.Sheet.Material), (vI l.Sheet.Gauge), (vI l.Sheet.Grain), (vI l.Sheet.Width), (vI l.Sheet.Height), (.sl (List.map c_Rect l.Sheet.Clamps)), (.sl (List.map c_Rect l.Sheet.Used)), (.sl (List.map c_Piece l.Pieces))])), (1, (.sl (List.map c_ItemT items))), (2, (.fn 32 [(.ptr 1000000 0), (.ptr 1000002 0)]))], [(300001, .row 4 [] (List.map cB h1)), (300003, .row 39 [] (List.map (cS cI) h3)), (1000000, .box [(.row (.top 300001) 4)]), (1000002, .box [(.row (.top 300003) 39)])]⟩ (by kernel_rfl) ?_
 refine z3 4 ⟨[(1, (.sl (List.map c_ItemT items))), (2, (.fn 32 [(.ptr 1000000 0), (.ptr 1000002 0)])), (3, (.ptr 3 0)), (6, (.ptr 6 0))], [(3, .box [(vS l.Sheet.Name), (vS l.Sheet.Material), (vI l.Sheet.Gauge), (vI l.Sheet.Grain), (vI l.Sheet.Width), (vI l.Sheet.Height), (.sl (List.map c_Rect l.Sheet.Clamps)), (.sl (List.map c_Rect l.Sheet.Used)), (.sl (List.map c_Piece l.Pieces))]), (6, .box [.nl, .nl, .nl, .nl, .nl]), (300001, .row 4 [] (List.map cB h1)), (300003, .row 39 [] (List.map (cS cI) h3)), (1000000, .box [(.row (.top 300001) 4)]), (1000002, .box [(.row (.top 300003) 39)])]⟩ (by kernel_rfl) ?_
 refine z7 (by kernel_rfl) ?_
 refine evs_run 1 (by kernel_rfl) ?_
 obtain ⟨r2, hr2, h⟩ := bindS h
 refine evs_callS [] [(0, 700050)] [] (by kernel_rfl) (W.cut_Edges_k_ok hr2) (by kernel_rfl) (by kernel_rfl) (.inl rfl) ?_
 refine z1 5 ⟨[(1, (.sl (List.map c_ItemT items))), (2, (.fn 32 [(.ptr 1000000 0), (.ptr 1000002 0)])), (3, (.ptr 3 0)), (6, (.ptr 6 0)), (9, (.row (.top 700050) 86)), (10, (vI r2.2))], [(3, .box [(vS l.Sheet.Name), (vS l.Sheet.Material), (vI l.Sheet.Gauge), (vI l.Sheet.Grain), (vI l.Sheet.Width), (vI l.Sheet.Height), (.sl (List.map c_Rect l.Sheet.Clamps)), (.sl (List.map c_Rect l.Sheet.Used)), (.sl (List.map c_Piece l.Pieces))]), (6, .box [.nl, .nl, .nl, .nl, .nl]), (300001, .row 4 [] (List.map cB h1)), (300003, .row 39 [] (List.map (cS cI) h3)), (700050, .row 86 [] (List.map c_EdgeT r2.1)), (1000000, .box [(.row (.top 300001) 4)]), (1000002, .box [(.row (.top 300003) 39)])]⟩ (by kernel_rfl) ?_
 refine sem_seq (by kernel_rfl) ?_
 refine z3 2 ⟨[(1, (.sl (List.map c_ItemT items))), (2, (.fn 32 [(.ptr 1000000 0), (.ptr 1000002 0)])), (3, (.ptr 3 0)), (6, (.ptr 6 0)), (9, (.row (.top 700050) 86)), (10, (vI r2.2)), (22, (vB (r2.2 != 0)))], [(3, .box [(vS l.Sheet.Name), (vS l.Sheet.Material), (vI l.Sheet.Gauge), (vI l.Sheet.Grain), (vI l.Sheet.Width), (vI l.Sheet.Height), (.sl (List.map c_Rect l.Sheet.Clamps)), (.sl (List.map c_Rect l.Sheet.Used)), (.sl (List.map c_Piece l.Pieces))]), (6, .box [.nl, .nl, .nl, .nl, .nl]), (300001, .row 4 [] (List.map cB h1)), (300003, .row 39 [] (List.map (cS cI) h3)), (700050, .row 86 [] (List.map c_EdgeT r2.1)), (1000000, .box [(.row (.top 300001) 4)]), (1000002, .box [(.row (.top 300003) 39)])]⟩ (by kernel_rfl) ?_
 refine sem_cond (r2.2 != 0) (by kernel_rfl) (by kernel_rfl) (fun hb => ?_) (fun hb => ?_)
 ·replace h := iteT hb h
  exact nomatch h
 ·replace h := iteF hb h
  refine z4 ⟨[(1, (.sl (List.map c_ItemT items))), (2, (.fn 32 [(.ptr 1000000 0), (.ptr 1000002 0)])), (3, (.ptr 3 0)), (6, (.ptr 6 0)), (9, (.row (.top 700050) 86))], [(3, .box [(vS l.Sheet.Name), (vS l.Sheet.Material), (vI l.Sheet.Gauge), (vI l.Sheet.Grain), (vI l.Sheet.Width), (vI l.Sheet.Height), (.sl (List.map c_Rect l.Sheet.Clamps)), (.sl (List.map c_Rect l.Sheet.Used)), (.sl (List.map c_Piece l.Pieces))]), (6, .box [.nl, .nl, .nl, .nl, .nl]), (300001, .row 4 [] (List.map cB h1)), (300003, .row 39 [] (List.map (cS cI) h3)), (700050, .row 86 [] (List.map c_EdgeT r2.1)), (1000000, .box [(.row (.top 300001) 4)]), (1000002, .box [(.row (.top 300003) 39)])]⟩ (by kernel_rfl) ?_
  refine sem_seq (by kernel_rfl) ?_
  refine z7 (by kernel_rfl) ?_
  refine evs_run 1 (by kernel_rfl) ?_
  refine evs_op (st_len (c := c_ItemT) (l := items) (x := (.sl (List.map c_ItemT items))) (by kernel_rfl) (by kernel_rfl)) ?_
  refine z1 1 ⟨[(1, (.sl (List.map c_ItemT items))), (2, (.fn 32 [(.ptr 1000000 0), (.ptr 1000002 0)])), (3, (.ptr 3 0)), (6, (.ptr 6 0)), (9, (.row (.top 700050) 86)), (27, (vB (decide ((items.length : Int) > 128))))], [(3, .box [(vS l.Sheet.Name), (vS l.Sheet.Material), (vI l.Sheet.Gauge), (vI l.Sheet.Grain), (vI l.Sheet.Width), (vI l.Sheet.Height), (.sl (List.map c_Rect l.Sheet.Clamps)), (.sl (List.map c_Rect l.Sheet.Used)), (.sl (List.map c_Piece l.Pieces))]), (6, .box [.nl, .nl, .nl, .nl, .nl]), (300001, .row 4 [] (List.map cB h1)), (300003, .row 39 [] (List.map (cS cI) h3)), (700050, .row 86 [] (List.map c_EdgeT r2.1)), (1000000, .box [(.row (.top 300001) 4)]), (1000002, .box [(.row (.top 300003) 39)])]⟩ (by kernel_rfl) ?_
  refine sem_cond (decide ((items.length : Int) > 128)) (by kernel_rfl) (by kernel_rfl) (fun hb => ?_) (fun hb => ?_)
  ·replace h := iteT hb h
   exact nomatch h
  ·replace h := iteF hb h
   refine z4 ⟨[(1, (.sl (List.map c_ItemT items))), (2, (.fn 32 [(.ptr 1000000 0), (.ptr 1000002 0)])), (3, (.ptr 3 0)), (6, (.ptr 6 0)), (9, (.row (.top 700050) 86))], [(3, .box [(vS l.Sheet.Name), (vS l.Sheet.Material), (vI l.Sheet.Gauge), (vI l.Sheet.Grain), (vI l.Sheet.Width), (vI l.Sheet.Height), (.sl (List.map c_Rect l.Sheet.Clamps)), (.sl (List.map c_Rect l.Sheet.Used)), (.sl (List.map c_Piece l.Pieces))]), (6, .box [.nl, .nl, .nl, .nl, .nl]), (300001, .row 4 [] (List.map cB h1)), (300003, .row 39 [] (List.map (cS cI) h3)), (700050, .row 86 [] (List.map c_EdgeT r2.1)), (1000000, .box [(.row (.top 300001) 4)]), (1000002, .box [(.row (.top 300003) 39)])]⟩ (by kernel_rfl) ?_
   refine z7 (by kernel_rfl) ?_
   refine evs_run 2 (by kernel_rfl) ?_
   refine evs_op (st_len (c := c_EdgeT) (l := r2.1) (x := (.row (.top 700050) 86)) (by kernel_rfl) (by kernel_rfl)) ?_
   obtain ⟨r4, hr4, h⟩ := bindS h
   refine evs_callS [] [(0, 700150), (1, 700151), (2, 700152), (3, 700153), (4, 700154), (5, 700155)] [] (by kernel_rfl) (W.cut_start_k_ok hr4) (by kernel_rfl) (by kernel_rfl) (.inl rfl) ?_
   refine z1 2 ⟨[(1, (.sl (List.map c_ItemT items))), (2, (.fn 32 [(.ptr 1000000 0), (.ptr 1000002 0)])), (3, (.ptr 3 0)), (6, (.ptr 6 0)), (9, (.row (.top 700050) 86)), (11, (.ptr 11 0))], [(3, .box [(vS l.Sheet.Name), (vS l.Sheet.Material), (vI l.Sheet.Gauge), (vI l.Sheet.Grain), (vI l.Sheet.Width), (vI l.Sheet.Height), (.sl (List.map c_Rect l.Sheet.Clamps)), (.sl (List.map c_Rect l.Sheet.Used)), (.sl (List.map c_Piece l.Pieces))]), (6, .box [.nl, .nl, .nl, .nl, .nl]), (11, .box [(.row (.top 700151) 4), (.row (.top 700152) 37), (.row (.top 700153) 4), (.row (.top 700154) 3), (.row (.top 700155) 4)]), (300001, .row 4 [] (List.map cB h1)), (300003, .row 39 [] (List.map (cS cI) h3)), (700050, .row 86 [] (List.map c_EdgeT r2.1)), (700151, .row 4 [] (List.map cB r4.Cut)), (700152, .row 37 [] (List.map (cS cB) r4.Holes)), (700153, .row 4 [] (List.map cB r4.Done)), (700154, .row 3 [] (List.map cI r4.Joints)), (700155, .row 4 [] (List.map cB r4.Fallen)), (1000000, .box [(.row (.top 300001) 4)]), (1000002, .box [(.row (.top 300003) 39)])]⟩ (by kernel_rfl) ?_
   refine sem_seq (by kernel_rfl) ?_
   refine z7 (by kernel_rfl) ?_
   refine evs_run 1 (by kernel_rfl) ?_
   refine evs_op (st_len (c := c_ItemT) (l := items) (x := (.sl (List.map c_ItemT items))) (by kernel_rfl) (by kernel_rfl)) ?_
   refine z1 1 ⟨[(2, (.fn 32 [(.ptr 1000000 0), (.ptr 1000002 0)])), (3, (.ptr 3 0)), (6, (.ptr 6 0)), (9, (.row (.top 700050) 86)), (11, (.ptr 11 0)), (33, (.sl (List.map c_ItemT items))), (34, (vI (items.length : Int))), (35, (vI 0))], [(3, .box [(vS l.Sheet.Name), (vS l.Sheet.Material), (vI l.Sheet.Gauge), (vI l.Sheet.Grain), (vI l.Sheet.Width), (vI l.Sheet.Height), (.sl (List.map c_Rect l.Sheet.Clamps)), (.sl (List.map c_Rect l.Sheet.Used)), (.sl (List.map c_Piece l.Pieces))]), (6, .box [.nl, .nl, .nl, .nl, .nl]), (11, .box [(.row (.top 700151) 4), (.row (.top 700152) 37), (.row (.top 700153) 4), (.row (.top 700154) 3), (.row (.top 700155) 4)]), (300001, .row 4 [] (List.map cB h1)), (300003, .row 39 [] (List.map (cS cI) h3)), (700050, .row 86 [] (List.map c_EdgeT r2.1)), (700151, .row 4 [] (List.map cB r4.Cut)), (700152, .row 37 [] (List.map (cS cB) r4.Holes)), (700153, .row 4 [] (List.map cB r4.Done)), (700154, .row 3 [] (List.map cI r4.Joints)), (700155, .row 4 [] (List.map cB r4.Fallen)), (1000000, .box [(.row (.top 300001) 4)]), (1000002, .box [(.row (.top 300003) 39)])]⟩ (by kernel_rfl) ?_
   refine sem_block (by kernel_rfl) ?_
   obtain ⟨x82, hx82, h⟩ := bindS h
   refine sem_loopS (fun (s57 : Int × (List (List Int)) × (List Bool) × (List (List Bool)) × (List Bool) × (List Int) × (List Bool) × (List Bool)) => ⟨[(2, (.fn 32 [(.ptr 1000000 0), (.ptr 1000002 0)])), (3, (.ptr 500001 0)), (6, (.ptr 500002 0)), (9, (.sl (List.map c_EdgeT r2.1))), (11, (.ptr 500003 0)), (33, (.sl (List.map c_ItemT items))), (34, (vI (items.length : Int))), (35, (vI s57.1))], [(500000, .row 39 [] (List.map (cS cI) s57.2.1)), (500001, .box [(vS l.Sheet.Name), (vS l.Sheet.Material), (vI l.Sheet.Gauge), (vI l.Sheet.Grain), (vI l.Sheet.Width), (vI l.Sheet.Height), (.sl (List.map c_Rect l.Sheet.Clamps)), (.sl (List.map c_Rect l.Sheet.Used)), (.sl (List.map c_Piece l.Pieces))]), (500002, .box [.nl, .nl, .nl, .nl, .nl]), (500003, .box [(.sl (List.map cB s57.2.2.1)), (.sl (List.map (cS cB) s57.2.2.2.1)), (.sl (List.map cB s57.2.2.2.2.1)), (.sl (List.map cI s57.2.2.2.2.2.1)), (.sl (List.map cB s57.2.2.2.2.2.2.1))]), (1000000, .box [(.sl (List.map cB s57.2.2.2.2.2.2.2))]), (1000002, .box [(.row (.top 500000) 39)])]⟩) (fun (x82 : (List Bool) × (List (List Bool)) × (List Bool) × (List Int) × (List Bool) × (List (List Int)) × (List Bool)) => (.exit 0, ⟨[(6, (.ptr 500000 0)), (11, (.ptr 500001 0))], [(500000, .box [.nl, .nl, .nl, .nl, .nl]), (500001, .box [(.sl (List.map cB x82.1)), (.sl (List.map (cS cB) x82.2.1)), (.sl (List.map cB x82.2.2.1)), (.sl (List.map cI x82.2.2.2.1)), (.sl (List.map cB x82.2.2.2.2.1))]), (500002, .row 39 [] (List.map (cS cI) x82.2.2.2.2.2.1)), (1000000, .box [(.sl (List.map cB x82.2.2.2.2.2.2))]), (1000002, .box [(.row (.top 500002) 39)])]⟩)) (cut_run__cut_Falls_1_k_l1 l items r2) (0, h3, r4.Cut, r4.Holes, r4.Done, r4.Joints, r4.Fallen, h1) x82 (by kernel_rfl) (subR_prep [.frz 300001, .frz 700050, .frz 700151, .frz 700152, .frz 700153, .frz 700154, .frz 700155] [(3, 500001), (6, 500002), (11, 500003), (300003, 500000), (1000000, 1000000), (1000002, 1000002)] (by kernel_rfl) rfl rfl (by kernel_rfl)) (iter_loop hx82) ?_ ?_ ?_
   ·intro s57 r h
    refine z3 1 ⟨[(2, (.fn 32 [(.ptr 1000000 0), (.ptr 1000002 0)])), (3, (.ptr 500001 0)), (6, (.ptr 500002 0)), (9, (.sl (List.map c_EdgeT r2.1))), (11, (.ptr 500003 0)), (33, (.sl (List.map c_ItemT items))), (34, (vI (items.length : Int))), (35, (vI s57.1)), (36, (vB (decide (s57.1 < (items.length : Int)))))], [(500000, .row 39 [] (List.map (cS cI) s57.2.1)), (500001, .box [(vS l.Sheet.Name), (vS l.Sheet.Material), (vI l.Sheet.Gauge), (vI l.Sheet.Grain), (vI l.Sheet.Width), (vI l.Sheet.Height), (.sl (List.map c_Rect l.Sheet.Clamps)), (.sl (List.map c_Rect l.Sheet.Used)), (.sl (List.map c_Piece l.Pieces))]), (500002, .box [.nl, .nl, .nl, .nl, .nl]), (500003, .box [(.sl (List.map cB s57.2.2.1)), (.sl (List.map (cS cB) s57.2.2.2.1)), (.sl (List.map cB s57.2.2.2.2.1)), (.sl (List.map cI s57.2.2.2.2.2.1)), (.sl (List.map cB s57.2.2.2.2.2.2.1))]), (1000000, .box [(.sl (List.map cB s57.2.2.2.2.2.2.2))]), (1000002, .box [(.row (.top 500000) 39)])]⟩ (by kernel_rfl) ?_
    refine sem_seq (by kernel_rfl) ?_
    refine sem_cond (decide (s57.1 < (items.length : Int))) (by kernel_rfl) (by kernel_rfl) (fun hb => ?_) (fun hb => ?_)
    ·replace h := iteT hb h
     refine z4 ⟨[(2, (.fn 32 [(.ptr 1000000 0), (.ptr 1000002 0)])), (3, (.ptr 500001 0)), (6, (.ptr 500002 0)), (9, (.sl (List.map c_EdgeT r2.1))), (11, (.ptr 500003 0)), (33, (.sl (List.map c_ItemT items))), (34, (vI (items.length : Int))), (35, (vI s57.1))], [(500000, .row 39 [] (List.map (cS cI) s57.2.1)), (500001, .box [(vS l.Sheet.Name), (vS l.Sheet.Material), (vI l.Sheet.Gauge), (vI l.Sheet.Grain), (vI l.Sheet.Width), (vI l.Sheet.Height), (.sl (List.map c_Rect l.Sheet.Clamps)), (.sl (List.map c_Rect l.Sheet.Used)), (.sl (List.map c_Piece l.Pieces))]), (500002, .box [.nl, .nl, .nl, .nl, .nl]), (500003, .box [(.sl (List.map cB s57.2.2.1)), (.sl (List.map (cS cB) s57.2.2.2.1)), (.sl (List.map cB s57.2.2.2.2.1)), (.sl (List.map cI s57.2.2.2.2.2.1)), (.sl (List.map cB s57.2.2.2.2.2.2.1))]), (1000000, .box [(.sl (List.map cB s57.2.2.2.2.2.2.2))]), (1000002, .box [(.row (.top 500000) 39)])]⟩ (by kernel_rfl) ?_
     refine sem_seq (by kernel_rfl) ?_
     refine sem_block (by kernel_rfl) ?_
     refine z7 (by kernel_rfl) ?_
     refine evs_run 1 (by kernel_rfl) ?_
     obtain ⟨x77, hx77, h⟩ := bindS h
     refine evs_op (st_idx (c := c_ItemT) (l := items) (i := s57.1) (kd := .i64) (sz := 5) (by kernel_rfl) hx77 rfl) ?_
     refine z1 4 ⟨[(2, (.fn 32 [(.ptr 1000000 0), (.ptr 1000002 0)])), (3, (.ptr 500001 0)), (6, (.ptr 500002 0)), (9, (.sl (List.map c_EdgeT r2.1))), (11, (.ptr 500003 0)), (12, (vI s57.1)), (13, (.ptr 13 0)), (33, (.sl (List.map c_ItemT items))), (34, (vI (items.length : Int))), (35, (vI s57.1))], [(13, .box [(vI x77.Piece), (vI x77.Hole), (vI x77.Joints), (vI x77.Lead.X), (vI x77.Lead.Y)]), (500000, .row 39 [] (List.map (cS cI) s57.2.1)), (500001, .box [(vS l.Sheet.Name), (vS l.Sheet.Material), (vI l.Sheet.Gauge), (vI l.Sheet.Grain), (vI l.Sheet.Width), (vI l.Sheet.Height), (.sl (List.map c_Rect l.Sheet.Clamps)), (.sl (List.map c_Rect l.Sheet.Used)), (.sl (List.map c_Piece l.Pieces))]), (500002, .box [.nl, .nl, .nl, .nl, .nl]), (500003, .box [(.sl (List.map cB s57.2.2.1)), (.sl (List.map (cS cB) s57.2.2.2.1)), (.sl (List.map cB s57.2.2.2.2.1)), (.sl (List.map cI s57.2.2.2.2.2.1)), (.sl (List.map cB s57.2.2.2.2.2.2.1))]), (1000000, .box [(.sl (List.map cB s57.2.2.2.2.2.2.2))]), (1000002, .box [(.row (.top 500000) 39)])]⟩ (by kernel_rfl) ?_
     refine z7 (by kernel_rfl) ?_
     refine evs_run 4 (by kernel_rfl) ?_
     obtain ⟨r79, hr79, h⟩ := bindS h
     refine evs_callS [] [(0, 700200), (1, 700201), (2, 700202), (3, 700203), (4, 700204), (5, 700205)] [] (by kernel_rfl) (W.cut_do_k_ok hr79) (by kernel_rfl) (by kernel_rfl) (.inl rfl) ?_
     refine z1 6 ⟨[(2, (.fn 32 [(.ptr 1000000 0), (.ptr 1000002 0)])), (3, (.ptr 500001 0)), (6, (.ptr 500002 0)), (9, (.sl (List.map c_EdgeT r2.1))), (11, (.ptr 500003 0)), (12, (vI s57.1)), (14, (.ptr 14 0)), (15, (vI r79.2)), (33, (.sl (List.map c_ItemT items))), (34, (vI (items.length : Int))), (35, (vI s57.1))], [(14, .box [(.row (.top 700201) 4), (.row (.top 700202) 37), (.row (.top 700203) 4), (.row (.top 700204) 3), (.row (.top 700205) 4)]), (500000, .row 39 [] (List.map (cS cI) s57.2.1)), (500001, .box [(vS l.Sheet.Name), (vS l.Sheet.Material), (vI l.Sheet.Gauge), (vI l.Sheet.Grain), (vI l.Sheet.Width), (vI l.Sheet.Height), (.sl (List.map c_Rect l.Sheet.Clamps)), (.sl (List.map c_Rect l.Sheet.Used)), (.sl (List.map c_Piece l.Pieces))]), (500002, .box [.nl, .nl, .nl, .nl, .nl]), (500003, .box [(.sl (List.map cB s57.2.2.1)), (.sl (List.map (cS cB) s57.2.2.2.1)), (.sl (List.map cB s57.2.2.2.2.1)), (.sl (List.map cI s57.2.2.2.2.2.1)), (.sl (List.map cB s57.2.2.2.2.2.2.1))]), (700201, .row 4 [] (List.map cB r79.1.Cut)), (700202, .row 37 [] (List.map (cS cB) r79.1.Holes)), (700203, .row 4 [] (List.map cB r79.1.Done)), (700204, .row 3 [] (List.map cI r79.1.Joints)), (700205, .row 4 [] (List.map cB r79.1.Fallen)), (1000000, .box [(.sl (List.map cB s57.2.2.2.2.2.2.2))]), (1000002, .box [(.row (.top 500000) 39)])]⟩ (by kernel_rfl) ?_
     refine sem_seq (by kernel_rfl) ?_
     refine z3 2 ⟨[(2, (.fn 32 [(.ptr 1000000 0), (.ptr 1000002 0)])), (3, (.ptr 500001 0)), (6, (.ptr 500002 0)), (9, (.sl (List.map c_EdgeT r2.1))), (11, (.ptr 500003 0)), (12, (vI s57.1)), (14, (.ptr 14 0)), (15, (vI r79.2)), (33, (.sl (List.map c_ItemT items))), (34, (vI (items.length : Int))), (35, (vI s57.1)), (49, (vB (r79.2 != 0)))], [(14, .box [(.row (.top 700201) 4), (.row (.top 700202) 37), (.row (.top 700203) 4), (.row (.top 700204) 3), (.row (.top 700205) 4)]), (500000, .row 39 [] (List.map (cS cI) s57.2.1)), (500001, .box [(vS l.Sheet.Name), (vS l.Sheet.Material), (vI l.Sheet.Gauge), (vI l.Sheet.Grain), (vI l.Sheet.Width), (vI l.Sheet.Height), (.sl (List.map c_Rect l.Sheet.Clamps)), (.sl (List.map c_Rect l.Sheet.Used)), (.sl (List.map c_Piece l.Pieces))]), (500002, .box [.nl, .nl, .nl, .nl, .nl]), (500003, .box [(.sl (List.map cB s57.2.2.1)), (.sl (List.map (cS cB) s57.2.2.2.1)), (.sl (List.map cB s57.2.2.2.2.1)), (.sl (List.map cI s57.2.2.2.2.2.1)), (.sl (List.map cB s57.2.2.2.2.2.2.1))]), (700201, .row 4 [] (List.map cB r79.1.Cut)), (700202, .row 37 [] (List.map (cS cB) r79.1.Holes)), (700203, .row 4 [] (List.map cB r79.1.Done)), (700204, .row 3 [] (List.map cI r79.1.Joints)), (700205, .row 4 [] (List.map cB r79.1.Fallen)), (1000000, .box [(.sl (List.map cB s57.2.2.2.2.2.2.2))]), (1000002, .box [(.row (.top 500000) 39)])]⟩ (by kernel_rfl) ?_
     refine sem_cond (r79.2 != 0) (by kernel_rfl) (by kernel_rfl) (fun hb => ?_) (fun hb => ?_)
     ·replace h := iteT hb h
      exact nomatch h
     ·replace h := iteF hb h
      refine z4 ⟨[(2, (.fn 32 [(.ptr 1000000 0), (.ptr 1000002 0)])), (3, (.ptr 500001 0)), (6, (.ptr 500002 0)), (9, (.sl (List.map c_EdgeT r2.1))), (11, (.ptr 500003 0)), (14, (.ptr 14 0)), (33, (.sl (List.map c_ItemT items))), (34, (vI (items.length : Int))), (35, (vI s57.1))], [(14, .box [(.row (.top 700201) 4), (.row (.top 700202) 37), (.row (.top 700203) 4), (.row (.top 700204) 3), (.row (.top 700205) 4)]), (500000, .row 39 [] (List.map (cS cI) s57.2.1)), (500001, .box [(vS l.Sheet.Name), (vS l.Sheet.Material), (vI l.Sheet.Gauge), (vI l.Sheet.Grain), (vI l.Sheet.Width), (vI l.Sheet.Height), (.sl (List.map c_Rect l.Sheet.Clamps)), (.sl (List.map c_Rect l.Sheet.Used)), (.sl (List.map c_Piece l.Pieces))]), (500002, .box [.nl, .nl, .nl, .nl, .nl]), (500003, .box [(.sl (List.map cB s57.2.2.1)), (.sl (List.map (cS cB) s57.2.2.2.1)), (.sl (List.map cB s57.2.2.2.2.1)), (.sl (List.map cI s57.2.2.2.2.2.1)), (.sl (List.map cB s57.2.2.2.2.2.2.1))]), (700201, .row 4 [] (List.map cB r79.1.Cut)), (700202, .row 37 [] (List.map (cS cB) r79.1.Holes)), (700203, .row 4 [] (List.map cB r79.1.Done)), (700204, .row 3 [] (List.map cI r79.1.Joints)), (700205, .row 4 [] (List.map cB r79.1.Fallen)), (1000000, .box [(.sl (List.map cB s57.2.2.2.2.2.2.2))]), (1000002, .box [(.row (.top 500000) 39)])]⟩ (by kernel_rfl) ?_
      refine z3 2 ⟨[(2, (.fn 32 [(.ptr 1000000 0), (.ptr 1000002 0)])), (3, (.ptr 500001 0)), (6, (.ptr 500002 0)), (9, (.sl (List.map c_EdgeT r2.1))), (11, (.ptr 500003 0)), (33, (.sl (List.map c_ItemT items))), (34, (vI (items.length : Int))), (35, (vI s57.1))], [(500000, .row 39 [] (List.map (cS cI) s57.2.1)), (500001, .box [(vS l.Sheet.Name), (vS l.Sheet.Material), (vI l.Sheet.Gauge), (vI l.Sheet.Grain), (vI l.Sheet.Width), (vI l.Sheet.Height), (.sl (List.map c_Rect l.Sheet.Clamps)), (.sl (List.map c_Rect l.Sheet.Used)), (.sl (List.map c_Piece l.Pieces))]), (500002, .box [.nl, .nl, .nl, .nl, .nl]), (500003, .box [(.row (.top 700201) 4), (.row (.top 700202) 37), (.row (.top 700203) 4), (.row (.top 700204) 3), (.row (.top 700205) 4)]), (700201, .row 4 [] (List.map cB r79.1.Cut)), (700202, .row 37 [] (List.map (cS cB) r79.1.Holes)), (700203, .row 4 [] (List.map cB r79.1.Done)), (700204, .row 3 [] (List.map cI r79.1.Joints)), (700205, .row 4 [] (List.map cB r79.1.Fallen)), (1000000, .box [(.sl (List.map cB s57.2.2.2.2.2.2.2))]), (1000002, .box [(.row (.top 500000) 39)])]⟩ (by kernel_rfl) ?_
      refine sem_region (by kernel_rfl) ?_
      refine evs_run 2 (by kernel_rfl) ?_
      refine evs_prep [.frz 700201, .frz 700202, .frz 700203, .frz 700204, .frz 700205] (by kernel_rfl) ?_
      obtain ⟨r81, hr81, h⟩ := bindS h
      refine evs_callS [(1000000, 1000000), (1000001, 1000002), (300002, 500000)] [(0, 700100)] [] (by kernel_rfl) (W.cut_Falls_1_k'_ok hr81) (by kernel_rfl) (by kernel_rfl) (.inl rfl) ?_
      refine evs_endS (by kernel_rfl) (fun τ hτ => ?_)
      refine bl_normal ?_
      refine th_normalS hτ ⟨[(2, (.fn 32 [(.ptr 1000000 0), (.ptr 1000002 0)])), (3, (.ptr 500001 0)), (6, (.ptr 500002 0)), (9, (.sl (List.map c_EdgeT r2.1))), (11, (.ptr 500003 0)), (33, (.sl (List.map c_ItemT items))), (34, (vI (items.length : Int))), (35, (vI s57.1))], [(500001, .box [(vS l.Sheet.Name), (vS l.Sheet.Material), (vI l.Sheet.Gauge), (vI l.Sheet.Grain), (vI l.Sheet.Width), (vI l.Sheet.Height), (.sl (List.map c_Rect l.Sheet.Clamps)), (.sl (List.map c_Rect l.Sheet.Used)), (.sl (List.map c_Piece l.Pieces))]), (500002, .box [.nl, .nl, .nl, .nl, .nl]), (500003, .box [(.sl (List.map cB r79.1.Cut)), (.sl (List.map (cS cB) r79.1.Holes)), (.sl (List.map cB r79.1.Done)), (.sl (List.map cI r79.1.Joints)), (.sl (List.map cB r79.1.Fallen))]), (700100, .row 39 [] (List.map (cS cI) r81)), (1000000, .box [(.sl (List.map cB r79.1.Fallen))]), (1000002, .box [(.row (.top 700100) 39)])]⟩ (here (by kernel_rfl)) ?_
      refine sem_region (by kernel_rfl) ?_
      refine z6 2 (by kernel_rfl) (fun τ hτ => ?_)
      obtain rfl := Option.some.inj h
      exact lk_nextS hτ (subR_prep [] [(500001, 500001), (500002, 500002), (500003, 500003), (700100, 500000), (1000000, 1000000), (1000002, 1000002)] (by kernel_rfl) rfl rfl (by kernel_rfl))
    ·replace h := iteF hb h
     refine sem_exitS 0 (by kernel_rfl) rfl (fun τ hτ => ?_)
     refine th_exit ?_
     obtain rfl := Option.some.inj h
     exact lk_outS hτ rfl (subR_prep [] [(500000, 500002), (500002, 500000), (500003, 500001), (1000000, 1000000), (1000002, 1000002)] (by kernel_rfl) rfl rfl (by kernel_rfl))
   ·intro x
    rfl
   ·intro τ hτ
    refine bl_hit (by kernel_rfl) ?_
    refine th_normalS hτ ⟨[(6, (.ptr 500000 0)), (11, (.ptr 500001 0))], [(500000, .box [.nl, .nl, .nl, .nl, .nl]), (500001, .box [(.sl (List.map cB x82.1)), (.sl (List.map (cS cB) x82.2.1)), (.sl (List.map cB x82.2.2.1)), (.sl (List.map cI x82.2.2.2.1)), (.sl (List.map cB x82.2.2.2.2.1))]), (500002, .row 39 [] (List.map (cS cI) x82.2.2.2.2.2.1)), (1000000, .box [(.sl (List.map cB x82.2.2.2.2.2.2))]), (1000002, .box [(.row (.top 500002) 39)])]⟩ (here (by kernel_rfl)) ?_
    refine z8 4 ⟨[(6, (.ptr 500000 0)), (7, (vI 0)), (8, (vI 0))], [(500000, .box [(.sl (List.map cB x82.1)), (.sl (List.map (cS cB) x82.2.1)), (.sl (List.map cB x82.2.2.1)), (.sl (List.map cI x82.2.2.2.1)), (.sl (List.map cB x82.2.2.2.2.1))]), (500002, .row 39 [] (List.map (cS cI) x82.2.2.2.2.2.1)), (1000000, .box [(.sl (List.map cB x82.2.2.2.2.2.2))]), (1000002, .box [(.row (.top 500002) 39)])]⟩ (by kernel_rfl) (fun τ hτ => ?_)
    obtain rfl := Option.some.inj h
    exact rk_ret hτ [(6, (.ptr 0 0)), (7, (vI 0)), (8, (vI 0))] (subR_prep [] [(500000, 0), (500002, 1), (1000000, 1000000), (1000002, 1000002)] (by kernel_rfl) rfl rfl (by kernel_rfl)) (by kernel_rfl)
theorem W.cut_Falls_k_ok {l : LayoutT} {items : (List ItemT)} {r : (List (List Int)) × Int} (h : cut_Falls_k l items = some r) : PC G.P 17 [(.agg [(vS l.Sheet.Name), (vS l.Sheet.Material), (vI l.Sheet.Gauge), (vI l.Sheet.Grain), (vI l.Sheet.Width), (vI l.Sheet.Height), (.sl (List.map c_Rect l.Sheet.Clamps)), (.sl (List.map c_Rect l.Sheet.Used)), (.sl (List.map c_Piece l.Pieces))]), (.sl (List.map c_ItemT items))] [] (.tup [(.row (.top 0) 39), (vI r.2)]) [(0, .row 39 [] (List.map (cS cI) r.1))] := by
 refine pc_of G (fn := Try.f17) Try.func17 (by kernel_rfl) (by kernel_rfl) (by kernel_rfl) (by kernel_rfl) (by kernel_rfl) ?_
 refine sem_set ⟨[(0, (.agg [(vS l.Sheet.Name), (vS l.Sheet.Material), (vI l.Sheet.Gauge), (vI l.Sheet.Grain), (vI l.Sheet.Width), (vI l.Sheet.Height), (.sl (List.map c_Rect l.Sheet.Clamps)), (.sl (List.map c_Rect l.Sheet.Used)), (.sl (List.map c_Piece l.Pieces))])), (1, (.sl (List.map c_ItemT items)))], []⟩ (by kernel_rfl) ?_
 refine z3 3 ⟨[(1, (.sl (List.map c_ItemT items))), (2, (.ptr 2 0))], [(2, .box [(vS l.Sheet.Name), (vS l.Sheet.Material), (vI l.Sheet.Gauge), (vI l.Sheet.Grain), (vI l.Sheet.Width), (vI l.Sheet.Height), (.sl (List.map c_Rect l.Sheet.Clamps)), (.sl (List.map c_Rect l.Sheet.Used)), (.sl (List.map c_Piece l.Pieces))])]⟩ (by kernel_rfl) ?_
 refine z7 (by kernel_rfl) ?_
 refine evs_run 1 (by kernel_rfl) ?_
 refine evs_prep [.row (.box 6 0) 800006 39 []] (by kernel_rfl) ?_
 refine evs_endS (by kernel_rfl) (fun τ hτ => ?_)
 refine th_normalS hτ ⟨[(1, (.sl (List.map c_ItemT items))), (2, (.ptr 2 0)), (6, (.ptr 6 0))], [(2, .box [(vS l.Sheet.Name), (vS l.Sheet.Material), (vI l.Sheet.Gauge), (vI l.Sheet.Grain), (vI l.Sheet.Width), (vI l.Sheet.Height), (.sl (List.map c_Rect l.Sheet.Clamps)), (.sl (List.map c_Rect l.Sheet.Used)), (.sl (List.map c_Piece l.Pieces))]), (6, .box [(.row (.top 800006) 39)]), (800006, .row 39 [] (List.map (cS cI) []))]⟩ (here (by kernel_rfl)) ?_
 refine z7 (by kernel_rfl) ?_
 refine evs_run 2 (by kernel_rfl) ?_
 refine evs_op (st_len (c := c_Piece) (l := l.Pieces) (x := (.sl (List.map c_Piece l.Pieces))) (by kernel_rfl) (by kernel_rfl)) ?_
 obtain ⟨l2, hl2, h⟩ := bindS h
 refine evs_op (st_mk (c := cB) (z := false) (n := (l.Pieces.length : Int)) (e := 4) (d := 14) (zs := [(vB false)]) (k1 := .i64) (k2 := .i64) (by kernel_rfl) rfl hl2) ?_
 refine evs_run 1 (by kernel_rfl) ?_
 refine evs_prep [.row (.box 7 0) 800007 4 []] (by kernel_rfl) ?_
 refine z1 1 ⟨[(1, (.sl (List.map c_ItemT items))), (2, (.ptr 2 0)), (6, (.ptr 6 0)), (7, (.ptr 7 0))], [(2, .box [(vS l.Sheet.Name), (vS l.Sheet.Material), (vI l.Sheet.Gauge), (vI l.Sheet.Grain), (vI l.Sheet.Width), (vI l.Sheet.Height), (.sl (List.map c_Rect l.Sheet.Clamps)), (.sl (List.map c_Rect l.Sheet.Used)), (.sl (List.map c_Piece l.Pieces))]), (6, .box [(.row (.top 800006) 39)]), (7, .box [(.row (.top 14) 4)]), (14, .row 4 [] (List.map cB l2)), (800006, .row 39 [] (List.map (cS cI) []))]⟩ (by kernel_rfl) ?_
 refine z7 (by kernel_rfl) ?_
 refine evs_run 3 (by kernel_rfl) ?_
 obtain ⟨r4, hr4, h⟩ := bindS h
 refine evs_callS [(1000000, 7), (300001, 14), (1000002, 6), (300003, 800006)] [(0, 700150), (1, 700151)] [] (by kernel_rfl) (W.cut_run__cut_Falls_1_k_ok hr4) (by kernel_rfl) (by kernel_rfl) (.inl rfl) ?_
 refine z1 8 ⟨[(6, (.ptr 6 0)), (10, (vI r4.2.2.1))], [(6, .box [(.row (.top 700151) 39)]), (700151, .row 39 [] (List.map (cS cI) r4.2.2.2.2.2.2.2.2.1))]⟩ (by kernel_rfl) ?_
 refine sem_seq (by kernel_rfl) ?_
 refine z3 2 ⟨[(6, (.ptr 6 0)), (10, (vI r4.2.2.1)), (24, (vB (r4.2.2.1 != 0)))], [(6, .box [(.row (.top 700151) 39)]), (700151, .row 39 [] (List.map (cS cI) r4.2.2.2.2.2.2.2.2.1))]⟩ (by kernel_rfl) ?_
 refine sem_cond (r4.2.2.1 != 0) (by kernel_rfl) (by kernel_rfl) (fun hb => ?_) (fun hb => ?_)
 ·replace h := iteT hb h
  exact nomatch h
 ·replace h := iteF hb h
  refine z4 ⟨[(6, (.ptr 6 0))], [(6, .box [(.row (.top 700151) 39)]), (700151, .row 39 [] (List.map (cS cI) r4.2.2.2.2.2.2.2.2.1))]⟩ (by kernel_rfl) ?_
  refine z8 3 ⟨[(4, (.row (.top 700151) 39)), (5, (vI 0))], [(700151, .row 39 [] (List.map (cS cI) r4.2.2.2.2.2.2.2.2.1))]⟩ (by kernel_rfl) (fun τ hτ => ?_)
  obtain rfl := Option.some.inj h
  exact rk_ret hτ [(4, (.row (.top 0) 39)), (5, (vI 0))] (subR_prep [] [(700151, 0)] (by kernel_rfl) rfl rfl (by kernel_rfl)) (by kernel_rfl)
theorem W.sheetmetalref06_SameInts_k_ok {a : (List Int)} {b : (List Int)} {r : Bool} (h : sheetmetalref06_SameInts_k a b = some r) : PC G.P 19 [(.sl (List.map cI a)), (.sl (List.map cI b))] [] (vB r) [] := by
 refine pc_of G (fn := Try.f19) Try.func19 (by kernel_rfl) (by kernel_rfl) (by kernel_rfl) (by kernel_rfl) (by kernel_rfl) ?_
 refine sem_set ⟨[(0, (.sl (List.map cI a))), (1, (.sl (List.map cI b)))], []⟩ (by kernel_rfl) ?_
 refine z3 1 ⟨[(0, (.sl (List.map cI a))), (1, (.sl (List.map cI b)))], []⟩ (by kernel_rfl) ?_
 refine sem_seq (by kernel_rfl) ?_
 refine z7 (by kernel_rfl) ?_
 refine evs_run 1 (by kernel_rfl) ?_
 refine evs_op (st_len (c := cI) (l := a) (x := (.sl (List.map cI a))) (by kernel_rfl) (by kernel_rfl)) ?_
 refine evs_run 1 (by kernel_rfl) ?_
 refine evs_op (st_len (c := cI) (l := b) (x := (.sl (List.map cI b))) (by kernel_rfl) (by kernel_rfl)) ?_
 refine z1 1 ⟨[(0, (.sl (List.map cI a))), (1, (.sl (List.map cI b))), (10, (vB ((a.length : Int) != (b.length : Int))))], []⟩ (by kernel_rfl) ?_
 refine sem_cond ((a.length : Int) != (b.length : Int)) (by kernel_rfl) (by kernel_rfl) (fun hb => ?_) (fun hb => ?_)
 ·replace h := iteT hb h
  exact nomatch h
 ·replace h := iteF hb h
  refine z4 ⟨[(0, (.sl (List.map cI a))), (1, (.sl (List.map cI b)))], []⟩ (by kernel_rfl) ?_
  refine sem_seq (by kernel_rfl) ?_
  refine z3 1 ⟨[(0, (.sl (List.map cI a))), (1, (.sl (List.map cI b))), (5, (vI 0))], []⟩ (by kernel_rfl) ?_
  refine sem_block (by kernel_rfl) ?_
  obtain ⟨x78, hx78, h⟩ := bindS h
  refine sem_loopS (fun (s53 : Int) => ⟨[(0, (.sl (List.map cI a))), (1, (.sl (List.map cI b))), (5, (vI s53))], []⟩) (fun (x78 : Unit) => (.exit 0, ⟨[], []⟩)) (sheetmetalref06_SameInts_k_l1 a b) 0 x78 (by kernel_rfl) (here (by kernel_rfl)) (iter_loop hx78) ?_ ?_ ?_
  ·intro s53 r h
   refine sem_seq (by kernel_rfl) ?_
   refine z7 (by kernel_rfl) ?_
   refine evs_run 2 (by kernel_rfl) ?_
   refine evs_op (st_len (c := cI) (l := a) (x := (.sl (List.map cI a))) (by kernel_rfl) (by kernel_rfl)) ?_
   refine z1 1 ⟨[(0, (.sl (List.map cI a))), (1, (.sl (List.map cI b))), (5, (vI s53)), (14, (vB (decide (s53 < (a.length : Int)))))], []⟩ (by kernel_rfl) ?_
   refine sem_cond (decide (s53 < (a.length : Int))) (by kernel_rfl) (by kernel_rfl) (fun hb => ?_) (fun hb => ?_)
   ·replace h := iteT hb h
    refine z4 ⟨[(0, (.sl (List.map cI a))), (1, (.sl (List.map cI b))), (5, (vI s53))], []⟩ (by kernel_rfl) ?_
    refine sem_seq (by kernel_rfl) ?_
    refine sem_block (by kernel_rfl) ?_
    refine sem_seq (by kernel_rfl) ?_
    refine sem_drawN [] [] [] [] [] 8 (by kernel_rfl) (by kernel_rfl) (by kernel_rfl) ?_
    refine evd_run 2 (by kernel_rfl) ?_
    obtain ⟨x76, hx76, h⟩ := bindS h
    refine evd_val (by kernel_rfl) (st_idx (c := cI) (l := a) (i := s53) (kd := .i64) (sz := 1) (by kernel_rfl) hx76 rfl) (by kernel_rfl) (by kernel_rfl) ?_
    refine evd_run 3 (by kernel_rfl) ?_
    obtain ⟨x77, hx77, h⟩ := bindS h
    refine evd_val (by kernel_rfl) (st_idx (c := cI) (l := b) (i := s53) (kd := .i64) (sz := 1) (by kernel_rfl) hx77 rfl) (by kernel_rfl) (by kernel_rfl) ?_
    refine evd_run 1 (by kernel_rfl) ?_
    refine evd_end (by kernel_rfl) ?_
    refine evo_run 1 (by kernel_rfl) ?_
    refine evo_endS (by kernel_rfl) (fun τ hτ => ?_)
    refine th_normalS hτ ⟨[(0, (.sl (List.map cI a))), (1, (.sl (List.map cI b))), (5, (vI s53)), (25, (vB (x76 != x77)))], []⟩ (here (by kernel_rfl)) ?_
    refine sem_cond (x76 != x77) (by kernel_rfl) (by kernel_rfl) (fun hb => ?_) (fun hb => ?_)
    ·replace h := iteT hb h
     exact nomatch h
    ·replace h := iteF hb h
     refine sem_skipS (by kernel_rfl) (fun τ hτ => ?_)
     refine bl_normal ?_
     refine th_normalS hτ ⟨[(0, (.sl (List.map cI a))), (1, (.sl (List.map cI b))), (5, (vI s53))], []⟩ (here (by kernel_rfl)) ?_
     refine sem_region (by kernel_rfl) ?_
     refine z6 3 (by kernel_rfl) (fun τ hτ => ?_)
     obtain rfl := Option.some.inj h
     exact lk_nextS hτ (here (by kernel_rfl))
   ·replace h := iteF hb h
    refine sem_exitS 0 (by kernel_rfl) rfl (fun τ hτ => ?_)
    refine th_exit ?_
    obtain rfl := Option.some.inj h
    exact lk_outS hτ rfl (here (by kernel_rfl))
  ·intro x
   rfl
  ·intro τ hτ
   refine bl_hit (by kernel_rfl) ?_
   refine th_normalS hτ ⟨[], []⟩ (here (by kernel_rfl)) ?_
   refine z8 1 ⟨[(4, (vB true))], []⟩ (by kernel_rfl) (fun τ hτ => ?_)
   obtain rfl := Option.some.inj h
   exact rk_ret hτ [(4, (vB true))] (here (by kernel_rfl)) (by kernel_rfl)
theorem W.sheetmetallaw07_known_k_ok {r : Bool} (h : sheetmetallaw07_known_k = some r) : PC G.P 6 [] [] (vB r) [] := by
 refine pc_of G (fn := Try.f6) Try.func6 (by kernel_rfl) (by kernel_rfl) (by kernel_rfl) (by kernel_rfl) (by kernel_rfl) ?_
 refine sem_set ⟨[], []⟩ (by kernel_rfl) ?_
 refine z3 1 ⟨[], []⟩ (by kernel_rfl) ?_
 refine z3 1 ⟨[(1, (vI 14400))], []⟩ (by kernel_rfl) ?_
 refine z3 7 ⟨[(1, (vI 14400)), (2, (.ptr 2 0))], [(2, .box [(vS (ByteArray.mk #[115])), (vS (ByteArray.mk #[115, 116, 101, 101, 108])), (vI 10), (vI 0), (vI 57600), (vI 57600), .nl, .nl])]⟩ (by kernel_rfl) ?_
 refine z3 7 ⟨[(1, (vI 14400)), (2, (.ptr 2 0)), (3, (.ptr 3 0))], [(2, .box [(vS (ByteArray.mk #[115])), (vS (ByteArray.mk #[115, 116, 101, 101, 108])), (vI 10), (vI 0), (vI 57600), (vI 57600), .nl, .nl]), (3, .box [(vS (ByteArray.mk #[97])), (vS (ByteArray.mk #[115, 116, 101, 101, 108])), (vI 10), (vI 0), (.sl (List.map c_Rect [(Rect.mk 0 0 14400 14400)])), .nl, .nl])]⟩ (by kernel_rfl) ?_
 refine z3 8 ⟨[(1, (vI 14400)), (2, (.ptr 2 0)), (3, (.ptr 3 0)), (4, (.ptr 4 0))], [(2, .box [(vS (ByteArray.mk #[115])), (vS (ByteArray.mk #[115, 116, 101, 101, 108])), (vI 10), (vI 0), (vI 57600), (vI 57600), .nl, .nl]), (3, .box [(vS (ByteArray.mk #[97])), (vS (ByteArray.mk #[115, 116, 101, 101, 108])), (vI 10), (vI 0), (.sl (List.map c_Rect [(Rect.mk 0 0 14400 14400)])), .nl, .nl]), (4, .box [(vS (ByteArray.mk #[98])), (vS (ByteArray.mk #[115, 116, 101, 101, 108])), (vI 10), (vI 0), (.sl (List.map c_Rect [(Rect.mk 14400 0 14400 14400)])), .nl, .nl])]⟩ (by kernel_rfl) ?_
 refine z7 (by kernel_rfl) ?_
 refine evs_run 3 (by kernel_rfl) ?_
 refine evs_at (at_buildS (es := (List.map c_Piece [(Piece.mk (ByteArray.mk #[97]) (ByteArray.mk #[115, 116, 101, 101, 108]) 10 0 [(Rect.mk 0 0 14400 14400)] [] []), (Piece.mk (ByteArray.mk #[98]) (ByteArray.mk #[115, 116, 101, 101, 108]) 10 0 [(Rect.mk 14400 0 14400 14400)] [] [])])) (by kernel_rfl)) ?_
 refine z1 3 ⟨[(1, (vI 14400)), (5, (.ptr 5 0))], [(5, .box [(vS (ByteArray.mk #[115])), (vS (ByteArray.mk #[115, 116, 101, 101, 108])), (vI 10), (vI 0), (vI 57600), (vI 57600), .nl, .nl, (.sl (List.map c_Piece [(Piece.mk (ByteArray.mk #[97]) (ByteArray.mk #[115, 116, 101, 101, 108]) 10 0 [(Rect.mk 0 0 14400 14400)] [] []), (Piece.mk (ByteArray.mk #[98]) (ByteArray.mk #[115, 116, 101, 101, 108]) 10 0 [(Rect.mk 14400 0 14400 14400)] [] [])]))])]⟩ (by kernel_rfl) ?_
 refine z7 (by kernel_rfl) ?_
 refine evs_run 1 (by kernel_rfl) ?_
 obtain ⟨r2, hr2, h⟩ := bindS h
 refine evs_callS [] [(0, 700050)] [] (by kernel_rfl) (W.cut_Edges_k_ok hr2) (by kernel_rfl) (by kernel_rfl) (.inl rfl) ?_
 refine z1 5 ⟨[(1, (vI 14400)), (5, (.ptr 5 0)), (6, (.row (.top 700050) 86)), (7, (vI r2.2))], [(5, .box [(vS (ByteArray.mk #[115])), (vS (ByteArray.mk #[115, 116, 101, 101, 108])), (vI 10), (vI 0), (vI 57600), (vI 57600), .nl, .nl, (.sl (List.map c_Piece [(Piece.mk (ByteArray.mk #[97]) (ByteArray.mk #[115, 116, 101, 101, 108]) 10 0 [(Rect.mk 0 0 14400 14400)] [] []), (Piece.mk (ByteArray.mk #[98]) (ByteArray.mk #[115, 116, 101, 101, 108]) 10 0 [(Rect.mk 14400 0 14400 14400)] [] [])]))]), (700050, .row 86 [] (List.map c_EdgeT r2.1))]⟩ (by kernel_rfl) ?_
 refine z3 7 ⟨[(5, (.ptr 5 0)), (6, (.row (.top 700050) 86)), (7, (vI r2.2)), (8, (.sl (List.map c_ItemT [(ItemT.mk 0 (-1) 0 (Spot.mk 0 0)), (ItemT.mk 1 (-1) 0 (Spot.mk 28800 0))])))], [(5, .box [(vS (ByteArray.mk #[115])), (vS (ByteArray.mk #[115, 116, 101, 101, 108])), (vI 10), (vI 0), (vI 57600), (vI 57600), .nl, .nl, (.sl (List.map c_Piece [(Piece.mk (ByteArray.mk #[97]) (ByteArray.mk #[115, 116, 101, 101, 108]) 10 0 [(Rect.mk 0 0 14400 14400)] [] []), (Piece.mk (ByteArray.mk #[98]) (ByteArray.mk #[115, 116, 101, 101, 108]) 10 0 [(Rect.mk 14400 0 14400 14400)] [] [])]))]), (700050, .row 86 [] (List.map c_EdgeT r2.1))]⟩ (by kernel_rfl) ?_
 refine z7 (by kernel_rfl) ?_
 refine evs_run 2 (by kernel_rfl) ?_
 obtain ⟨r4, hr4, h⟩ := bindS h
 refine evs_callS [] [(0, 700100)] [] (by kernel_rfl) (W.cut_Falls_k_ok hr4) (by kernel_rfl) (by kernel_rfl) (.inl rfl) ?_
 refine z1 5 ⟨[(6, (.row (.top 700050) 86)), (7, (vI r2.2)), (9, (.row (.top 700100) 39)), (10, (vI r4.2))], [(700050, .row 86 [] (List.map c_EdgeT r2.1)), (700100, .row 39 [] (List.map (cS cI) r4.1))]⟩ (by kernel_rfl) ?_
 refine z7 (by kernel_rfl) ?_
 refine evs_run 3 (by kernel_rfl) ?_
 refine evs_split (r2.2 == 0) (fun b0 => ⟨[(6, (.row (.top 700050) 86)), (9, (.row (.top 700100) 39)), (10, (vI r4.2)), (51, (vB b0))], [(700050, .row 86 [] (List.map c_EdgeT r2.1)), (700100, .row 39 [] (List.map (cS cI) r4.1))]⟩) (by kernel_rfl) (fun hb => ?_) (fun hb => ?_)
 ·replace h := iteT hb h
  refine evs_run 1 (by kernel_rfl) ?_
  refine evs_op (st_len (c := c_EdgeT) (l := r2.1) (x := (.row (.top 700050) 86)) (by kernel_rfl) (by kernel_rfl)) ?_
  refine evs_run 3 (by kernel_rfl) ?_
  refine evs_split ((r2.1.length : Int) == 7) (fun b0 => ⟨[(9, (.row (.top 700100) 39)), (10, (vI r4.2)), (56, (vB b0))], [(700100, .row 39 [] (List.map (cS cI) r4.1))]⟩) (by kernel_rfl) (fun hb => ?_) (fun hb => ?_)
  ·replace h := iteT hb h
   refine evs_run 4 (by kernel_rfl) ?_
   refine evs_split (r4.2 == 0) (fun b0 => ⟨[(9, (.row (.top 700100) 39)), (60, (vB b0))], [(700100, .row 39 [] (List.map (cS cI) r4.1))]⟩) (by kernel_rfl) (fun hb => ?_) (fun hb => ?_)
   ·replace h := iteT hb h
    refine evs_run 1 (by kernel_rfl) ?_
    refine evs_op (st_len (c := (cS cI)) (l := r4.1) (x := (.row (.top 700100) 39)) (by kernel_rfl) (by kernel_rfl)) ?_
    refine evs_run 3 (by kernel_rfl) ?_
    refine evs_split ((r4.1.length : Int) == 2) (fun b0 => ⟨[(9, (.row (.top 700100) 39)), (65, (vB b0))], [(700100, .row 39 [] (List.map (cS cI) r4.1))]⟩) (by kernel_rfl) (fun hb => ?_) (fun hb => ?_)
    ·replace h := iteT hb h
     refine evs_run 1 (by kernel_rfl) ?_
     obtain ⟨x9, hx9, h⟩ := bindS h
     refine evs_op (st_idxO (c := (cS cI)) (l := r4.1) (i := 0) (kd := .i64) (kk := (.top 700100)) (e := 39) (sz := 1) (by kernel_rfl) (by kernel_rfl) hx9 rfl) ?_
     refine evs_op (st_ldO (c := (cS cI)) (l := r4.1) (i := (Int.toNat 0)) (v := (.sl (List.map cI x9))) (agg := false) (sz := 1) (kk := (.top 700100)) (e := 39) (off := 0) (J := []) (by kernel_rfl) (by kernel_rfl) (by kernel_rfl) ((idxS hx9).2) (by kernel_rfl)) ?_
     refine evs_run 1 (by kernel_rfl) ?_
     obtain ⟨r10, hr10, h⟩ := bindS h
     refine evs_callP [] (by kernel_rfl) (W.sheetmetalref06_SameInts_k_ok hr10) (by kernel_rfl) (.inl rfl) (by kernel_rfl) ?_
     refine evs_run 2 (by kernel_rfl) ?_
     refine evs_split r10 (fun b0 => ⟨[(9, (.row (.top 700100) 39)), (72, (vB b0))], [(700100, .row 39 [] (List.map (cS cI) r4.1))]⟩) (by kernel_rfl) (fun hb => ?_) (fun hb => ?_)
     ·replace h := iteT hb h
      refine evs_run 1 (by kernel_rfl) ?_
      obtain ⟨x11, hx11, h⟩ := bindS h
      refine evs_op (st_idxO (c := (cS cI)) (l := r4.1) (i := 1) (kd := .i64) (kk := (.top 700100)) (e := 39) (sz := 1) (by kernel_rfl) (by kernel_rfl) hx11 rfl) ?_
      refine evs_op (st_ldO (c := (cS cI)) (l := r4.1) (i := (Int.toNat 1)) (v := (.sl (List.map cI x11))) (agg := false) (sz := 1) (kk := (.top 700100)) (e := 39) (off := 0) (J := []) (by kernel_rfl) (by kernel_rfl) (by kernel_rfl) ((idxS hx11).2) (by kernel_rfl)) ?_
      refine evs_run 1 (by kernel_rfl) ?_
      obtain ⟨r12, hr12, h⟩ := bindS h
      refine evs_callP [] (by kernel_rfl) (W.sheetmetalref06_SameInts_k_ok hr12) (by kernel_rfl) (.inl rfl) (by kernel_rfl) ?_
      refine z1 2 ⟨[(0, (vB r12))], []⟩ (by kernel_rfl) ?_
      refine sem_retS (by kernel_rfl) (fun τ hτ => ?_)
      obtain rfl := Option.some.inj h
      exact rk_ret hτ [(0, (vB r12))] (here (by kernel_rfl)) (by kernel_rfl)
     ·replace h := iteF hb h
      exact nomatch h
    ·replace h := iteF hb h
     exact nomatch h
   ·replace h := iteF hb h
    exact nomatch h
  ·replace h := iteF hb h
   exact nomatch h
 ·replace h := iteF hb h
  exact nomatch h
theorem W.geom_within_ok {n : Int} {most : Int} {r : Bool} (h : geom_within n most = some r) : PC G.P 36 [(vI n), (vI most)] [] (vB r) [] := by
 refine pc_of G (fn := Try.f36) Try.func36 (by kernel_rfl) (by kernel_rfl) (by kernel_rfl) (by kernel_rfl) (by kernel_rfl) ?_
 refine sem_set ⟨[(0, (vI n)), (1, (vI most))], []⟩ (by kernel_rfl) ?_
 refine z3 1 ⟨[(0, (vI n)), (1, (vI most))], []⟩ (by kernel_rfl) ?_
 refine sem_seq (by kernel_rfl) ?_
 obtain ⟨j1, hj1, h⟩ := bindS h
 refine sem_regionC ⟨[(4, (vB j1))], []⟩ (by kernel_rfl) ?_ (fun τ hτ => ?_)
 ·replace h := hj1
  refine evs_run 5 (by kernel_rfl) ?_
  refine evs_split (decide ((ineg most) ≤ n)) (fun b0 => ⟨[(0, (vI n)), (1, (vI most)), (9, (vB b0))], []⟩) (by kernel_rfl) (fun hb => ?_) (fun hb => ?_)
  ·replace h := iteT hb h
   refine z6 5 (by kernel_rfl) (fun τ hτ => ?_)
   obtain rfl := Option.some.inj h
   exact leafC hτ (here (by kernel_rfl))
  ·replace h := iteF hb h
   refine z6 5 (by kernel_rfl) (fun τ hτ => ?_)
   obtain rfl := Option.some.inj h
   exact leafC hτ (here (by kernel_rfl))
 refine th_normalS hτ ⟨[(4, (vB j1))], []⟩ (here (by kernel_rfl)) ?_
 refine sem_retS (by kernel_rfl) (fun τ hτ => ?_)
 obtain rfl := Option.some.inj h
 exact rk_ret hτ [(4, (vB j1))] (here (by kernel_rfl)) (by kernel_rfl)
theorem W.geom_ValidRect_1_ok {x0 : Int} {w : Int} {r : Bool} (h : geom_ValidRect_1 x0 w = some r) : PC G.P 35 [(vI x0), (vI w)] [] (vB r) [] := by
 refine pc_of G (fn := Try.f35) Try.func35 (by kernel_rfl) (by kernel_rfl) (by kernel_rfl) (by kernel_rfl) (by kernel_rfl) ?_
 refine sem_set ⟨[(0, (vI x0)), (1, (vI w))], []⟩ (by kernel_rfl) ?_
 refine z3 1 ⟨[(0, (vI x0)), (1, (vI w))], []⟩ (by kernel_rfl) ?_
 refine sem_seq (by kernel_rfl) ?_
 obtain ⟨j2, hj2, h⟩ := bindS h
 refine sem_regionC ⟨[(4, (vB j2))], []⟩ (by kernel_rfl) ?_ (fun τ hτ => ?_)
 ·replace h := hj2
  refine evs_run 1 (by kernel_rfl) ?_
  obtain ⟨r3, hr3, h⟩ := bindS h
  refine evs_callP [] (by kernel_rfl) (W.geom_within_ok hr3) (by kernel_rfl) (.inl rfl) (by kernel_rfl) ?_
  refine evs_run 1 (by kernel_rfl) ?_
  refine evs_split r3 (fun b0 => ⟨[(0, (vI x0)), (1, (vI w)), (7, (vB b0))], []⟩) (by kernel_rfl) (fun hb => ?_) (fun hb => ?_)
  ·replace h := iteT hb h
   refine evs_run 4 (by kernel_rfl) ?_
   refine evs_split (decide (w > 0)) (fun b0 => ⟨[(0, (vI x0)), (1, (vI w)), (11, (vB b0))], []⟩) (by kernel_rfl) (fun hb => ?_) (fun hb => ?_)
   ·replace h := iteT hb h
    refine evs_run 4 (by kernel_rfl) ?_
    refine evs_split (decide (w ≤ 2097152)) (fun b0 => ⟨[(0, (vI x0)), (1, (vI w)), (15, (vB b0))], []⟩) (by kernel_rfl) (fun hb => ?_) (fun hb => ?_)
    ·replace h := iteT hb h
     refine z6 6 (by kernel_rfl) (fun τ hτ => ?_)
     obtain rfl := Option.some.inj h
     exact leafC hτ (here (by kernel_rfl))
    ·replace h := iteF hb h
     refine z6 6 (by kernel_rfl) (fun τ hτ => ?_)
     obtain rfl := Option.some.inj h
     exact leafC hτ (here (by kernel_rfl))
   ·replace h := iteF hb h
    refine z6 10 (by kernel_rfl) (fun τ hτ => ?_)
    obtain rfl := Option.some.inj h
    exact leafC hτ (here (by kernel_rfl))
  ·replace h := iteF hb h
   refine z6 14 (by kernel_rfl) (fun τ hτ => ?_)
   obtain rfl := Option.some.inj h
   exact leafC hτ (here (by kernel_rfl))
 refine th_normalS hτ ⟨[(4, (vB j2))], []⟩ (here (by kernel_rfl)) ?_
 refine sem_retS (by kernel_rfl) (fun τ hτ => ?_)
 obtain rfl := Option.some.inj h
 exact rk_ret hτ [(4, (vB j2))] (here (by kernel_rfl)) (by kernel_rfl)
theorem W.geom_ValidRect_ok {r0 : Rect} {r : Bool} (h : geom_ValidRect r0 = some r) : PC G.P 20 [(.agg [(vI r0.X), (vI r0.Y), (vI r0.W), (vI r0.H)])] [] (vB r) [] := by
 refine pc_of G (fn := Try.f20) Try.func20 (by kernel_rfl) (by kernel_rfl) (by kernel_rfl) (by kernel_rfl) (by kernel_rfl) ?_
 refine sem_set ⟨[(0, (.agg [(vI r0.X), (vI r0.Y), (vI r0.W), (vI r0.H)]))], []⟩ (by kernel_rfl) ?_
 refine z3 2 ⟨[(1, (.ptr 1 0))], [(1, .box [(vI r0.X), (vI r0.Y), (vI r0.W), (vI r0.H)])]⟩ (by kernel_rfl) ?_
 refine z3 1 ⟨[(1, (.ptr 1 0)), (3, (.fn 35 []))], [(1, .box [(vI r0.X), (vI r0.Y), (vI r0.W), (vI r0.H)])]⟩ (by kernel_rfl) ?_
 refine sem_seq (by kernel_rfl) ?_
 obtain ⟨j3, hj3, h⟩ := bindS h
 refine sem_regionC ⟨[(2, (vB j3))], []⟩ (by kernel_rfl) ?_ (fun τ hτ => ?_)
 ·replace h := hj3
  refine evs_run 5 (by kernel_rfl) ?_
  obtain ⟨r4, hr4, h⟩ := bindS h
  refine evs_callP [] (by kernel_rfl) (W.geom_ValidRect_1_ok hr4) (by kernel_rfl) (.inl rfl) (by kernel_rfl) ?_
  refine evs_run 1 (by kernel_rfl) ?_
  refine evs_split r4 (fun b0 => ⟨[(1, (.ptr 1 0)), (3, (.fn 35 [])), (10, (vB b0))], [(1, .box [(vI r0.X), (vI r0.Y), (vI r0.W), (vI r0.H)])]⟩) (by kernel_rfl) (fun hb => ?_) (fun hb => ?_)
  ·replace h := iteT hb h
   refine evs_run 5 (by kernel_rfl) ?_
   obtain ⟨r5, hr5, h⟩ := bindS h
   refine evs_callP [] (by kernel_rfl) (W.geom_ValidRect_1_ok hr5) (by kernel_rfl) (.inl rfl) (by kernel_rfl) ?_
   refine z6 2 (by kernel_rfl) (fun τ hτ => ?_)
   obtain rfl := Option.some.inj h
   exact leafC hτ (here (by kernel_rfl))
  ·replace h := iteF hb h
   refine z6 8 (by kernel_rfl) (fun τ hτ => ?_)
   obtain rfl := Option.some.inj h
   exact leafC hτ (here (by kernel_rfl))
 refine th_normalS hτ ⟨[(2, (vB j3))], []⟩ (here (by kernel_rfl)) ?_
 refine sem_retS (by kernel_rfl) (fun τ hτ => ?_)
 obtain rfl := Option.some.inj h
 exact rk_ret hτ [(2, (vB j3))] (here (by kernel_rfl)) (by kernel_rfl)
theorem W.cut_Small_ok {x0 : Piece} {r : Bool} (h : cut_Small x0 = some r) : PC G.P 7 [(.agg [(vS x0.Name), (vS x0.Material), (vI x0.Gauge), (vI x0.Grain), (.sl (List.map c_Rect x0.Rects)), (.sl (List.map c_Rect x0.Cuts)), (.sl (List.map c_Rect x0.Forms))])] [] (vB r) [] := by
 refine pc_of G (fn := Try.f7) Try.func7 (by kernel_rfl) (by kernel_rfl) (by kernel_rfl) (by kernel_rfl) (by kernel_rfl) ?_
 refine sem_set ⟨[(0, (.agg [(vS x0.Name), (vS x0.Material), (vI x0.Gauge), (vI x0.Grain), (.sl (List.map c_Rect x0.Rects)), (.sl (List.map c_Rect x0.Cuts)), (.sl (List.map c_Rect x0.Forms))]))], []⟩ (by kernel_rfl) ?_
 refine z3 2 ⟨[(1, (.ptr 1 0))], [(1, .box [(vS x0.Name), (vS x0.Material), (vI x0.Gauge), (vI x0.Grain), (.sl (List.map c_Rect x0.Rects)), (.sl (List.map c_Rect x0.Cuts)), (.sl (List.map c_Rect x0.Forms))])]⟩ (by kernel_rfl) ?_
 refine z3 1 ⟨[(1, (.ptr 1 0)), (3, (.ptr 3 0))], [(1, .box [(vS x0.Name), (vS x0.Material), (vI x0.Gauge), (vI x0.Grain), (.sl (List.map c_Rect x0.Rects)), (.sl (List.map c_Rect x0.Cuts)), (.sl (List.map c_Rect x0.Forms))]), (3, .box [(vI 0), (vI 0), (vI 0), (vI 0)])]⟩ (by kernel_rfl) ?_
 refine sem_seq (by kernel_rfl) ?_
 refine z7 (by kernel_rfl) ?_
 refine evs_run 2 (by kernel_rfl) ?_
 refine evs_op (st_len (c := c_Rect) (l := x0.Rects) (x := (.sl (List.map c_Rect x0.Rects))) (by kernel_rfl) (by kernel_rfl)) ?_
 refine z1 1 ⟨[(3, (.ptr 3 0)), (9, (.sl (List.map c_Rect x0.Rects))), (10, (vI (x0.Rects.length : Int))), (11, (vI 0))], [(3, .box [(vI 0), (vI 0), (vI 0), (vI 0)])]⟩ (by kernel_rfl) ?_
 refine sem_block (by kernel_rfl) ?_
 obtain ⟨x60, hx60, h⟩ := bindS h
 refine sem_loopS (fun (s41 : Int × Int × Int × Int × Int) => ⟨[(3, (.ptr 500000 0)), (9, (.sl (List.map c_Rect x0.Rects))), (10, (vI (x0.Rects.length : Int))), (11, (vI s41.1))], [(500000, .box [(vI s41.2.1), (vI s41.2.2.1), (vI s41.2.2.2.1), (vI s41.2.2.2.2)])]⟩) (fun (x60 : Int × Int × Int × Int) => (.exit 0, ⟨[(3, (.ptr 500000 0))], [(500000, .box [(vI x60.1), (vI x60.2.1), (vI x60.2.2.1), (vI x60.2.2.2)])]⟩)) (cut_Small_l2 x0) (0, 0, 0, 0, 0) x60 (by kernel_rfl) (subR_prep [] [(3, 500000)] (by kernel_rfl) rfl rfl (by kernel_rfl)) hx60 ?_ ?_ ?_
 ·intro s41 r h
  refine z3 1 ⟨[(3, (.ptr 500000 0)), (9, (.sl (List.map c_Rect x0.Rects))), (10, (vI (x0.Rects.length : Int))), (11, (vI s41.1)), (12, (vB (decide (s41.1 < (x0.Rects.length : Int)))))], [(500000, .box [(vI s41.2.1), (vI s41.2.2.1), (vI s41.2.2.2.1), (vI s41.2.2.2.2)])]⟩ (by kernel_rfl) ?_
  refine sem_seq (by kernel_rfl) ?_
  refine sem_cond (decide (s41.1 < (x0.Rects.length : Int))) (by kernel_rfl) (by kernel_rfl) (fun hb => ?_) (fun hb => ?_)
  ·replace h := iteT hb h
   refine z4 ⟨[(3, (.ptr 500000 0)), (9, (.sl (List.map c_Rect x0.Rects))), (10, (vI (x0.Rects.length : Int))), (11, (vI s41.1))], [(500000, .box [(vI s41.2.1), (vI s41.2.2.1), (vI s41.2.2.2.1), (vI s41.2.2.2.2)])]⟩ (by kernel_rfl) ?_
   refine sem_seqJ (fun (j55 : Int × Int × Int × Int) => ⟨[(3, (.ptr 500000 0)), (9, (.sl (List.map c_Rect x0.Rects))), (10, (vI (x0.Rects.length : Int))), (11, (vI s41.1))], [(500000, .box [(vI j55.1), (vI j55.2.1), (vI j55.2.2.1), (vI j55.2.2.2)])]⟩) (cut_Small_k1 s41) r (by kernel_rfl) (fun j55 h => ?_) ?_
   ·refine sem_region (by kernel_rfl) ?_
    refine z6 2 (by kernel_rfl) (fun τ hτ => ?_)
    obtain rfl := Option.some.inj h
    exact lk_nextS hτ (here (by kernel_rfl))
   refine sem_block (by kernel_rfl) ?_
   refine z7 (by kernel_rfl) ?_
   obtain ⟨x57, hx57, h⟩ := bindS h
   refine evs_op (st_idx (c := c_Rect) (l := x0.Rects) (i := s41.1) (kd := .i64) (sz := 4) (by kernel_rfl) hx57 rfl) ?_
   refine z1 3 ⟨[(3, (.ptr 500000 0)), (5, (.ptr 5 0)), (9, (.sl (List.map c_Rect x0.Rects))), (10, (vI (x0.Rects.length : Int))), (11, (vI s41.1))], [(5, .box [(vI x57.X), (vI x57.Y), (vI x57.W), (vI x57.H)]), (500000, .box [(vI s41.2.1), (vI s41.2.2.1), (vI s41.2.2.2.1), (vI s41.2.2.2.2)])]⟩ (by kernel_rfl) ?_
   refine sem_block (by kernel_rfl) ?_
   refine z7 (by kernel_rfl) ?_
   refine evs_run 1 (by kernel_rfl) ?_
   obtain ⟨r59, hr59, h⟩ := bindS h
   refine evs_callP [] (by kernel_rfl) (W.geom_ValidRect_ok hr59) (by kernel_rfl) (.inl rfl) (by kernel_rfl) ?_
   refine z1 2 ⟨[(3, (.ptr 500000 0)), (5, (.ptr 5 0)), (9, (.sl (List.map c_Rect x0.Rects))), (10, (vI (x0.Rects.length : Int))), (11, (vI s41.1)), (57, (vB (!r59)))], [(5, .box [(vI x57.X), (vI x57.Y), (vI x57.W), (vI x57.H)]), (500000, .box [(vI s41.2.1), (vI s41.2.2.1), (vI s41.2.2.2.1), (vI s41.2.2.2.2)])]⟩ (by kernel_rfl) ?_
   refine sem_cond (!r59) (by kernel_rfl) (by kernel_rfl) (fun hb => ?_) (fun hb => ?_)
   ·replace h := iteT hb h
    refine sem_skipS (by kernel_rfl) (fun τ hτ => ?_)
    refine bl_normal ?_
    refine bl_normal ?_
    exact jk_normal (s41.2.1, s41.2.2.1, s41.2.2.2.1, s41.2.2.2.2) h hτ (here (by kernel_rfl))
   ·replace h := iteF hb h
    refine z3 4 ⟨[(3, (.ptr 500000 0)), (5, (.ptr 5 0)), (9, (.sl (List.map c_Rect x0.Rects))), (10, (vI (x0.Rects.length : Int))), (11, (vI s41.1)), (61, (vB (s41.2.2.2.1 == 0)))], [(5, .box [(vI x57.X), (vI x57.Y), (vI x57.W), (vI x57.H)]), (500000, .box [(vI s41.2.1), (vI s41.2.2.1), (vI s41.2.2.2.1), (vI s41.2.2.2.2)])]⟩ (by kernel_rfl) ?_
    refine sem_cond (s41.2.2.2.1 == 0) (by kernel_rfl) (by kernel_rfl) (fun hb => ?_) (fun hb => ?_)
    ·replace h := iteT hb h
     refine sem_region (by kernel_rfl) ?_
     refine z6 2 (by kernel_rfl) (fun τ hτ => ?_)
     refine bl_normal ?_
     refine bl_normal ?_
     exact jk_normal (x57.X, x57.Y, x57.W, x57.H) h hτ (here (by kernel_rfl))
    ·replace h := iteF hb h
     refine sem_seq (by kernel_rfl) ?_
     refine sem_drawN [] [] [] [] [] 11 (by kernel_rfl) (by kernel_rfl) (by kernel_rfl) ?_
     refine evd_run 11 (by kernel_rfl) ?_
     refine evd_end (by kernel_rfl) ?_
     refine evo_run 1 (by kernel_rfl) ?_
     refine evo_endS (by kernel_rfl) (fun τ hτ => ?_)
     refine th_normalS hτ ⟨[(3, (.ptr 500000 0)), (5, (.ptr 5 0)), (6, (vI (imin s41.2.1 x57.X))), (7, (vI (imin s41.2.2.1 x57.Y))), (9, (.sl (List.map c_Rect x0.Rects))), (10, (vI (x0.Rects.length : Int))), (11, (vI s41.1))], [(5, .box [(vI x57.X), (vI x57.Y), (vI x57.W), (vI x57.H)]), (500000, .box [(vI s41.2.1), (vI s41.2.2.1), (vI s41.2.2.2.1), (vI s41.2.2.2.2)])]⟩ (here (by kernel_rfl)) ?_
     refine sem_seq (by kernel_rfl) ?_
     refine sem_drawN [(27, [500000])] [] [] [(17, [500000]), (18, [500000]), (19, [500000]), (20, [500000]), (21, [500000]), (22, [500000]), (23, [500000]), (24, [500000]), (25, [500000])] [] 28 (by kernel_rfl) (by kernel_rfl) (by kernel_rfl) ?_
     refine evd_run 27 (by kernel_rfl) ?_
     refine evd_set (g := 500000) (ob := .box [(vI s41.2.1), (vI s41.2.2.1), (vI (isub (imax (iadd s41.2.1 s41.2.2.2.1) (iadd x57.X x57.W)) (imin s41.2.1 x57.X))), (vI s41.2.2.2.2)]) (v := vU) (by kernel_rfl) (by kernel_rfl) (by kernel_rfl) (by kernel_rfl) (by kernel_rfl) ?_
     refine evd_end (by kernel_rfl) ?_
     refine evo_run 2 (by kernel_rfl) ?_
     refine evo_endS (by kernel_rfl) (fun τ hτ => ?_)
     refine th_normalS hτ ⟨[(3, (.ptr 500000 0)), (6, (vI (imin s41.2.1 x57.X))), (7, (vI (imin s41.2.2.1 x57.Y))), (9, (.sl (List.map c_Rect x0.Rects))), (10, (vI (x0.Rects.length : Int))), (11, (vI s41.1))], [(500000, .box [(vI s41.2.1), (vI s41.2.2.1), (vI (isub (imax (iadd s41.2.1 s41.2.2.2.1) (iadd x57.X x57.W)) (imin s41.2.1 x57.X))), (vI (isub (imax (iadd s41.2.2.1 s41.2.2.2.2) (iadd x57.Y x57.H)) (imin s41.2.2.1 x57.Y)))])]⟩ (here (by kernel_rfl)) ?_
     refine sem_region (by kernel_rfl) ?_
     refine z6 6 (by kernel_rfl) (fun τ hτ => ?_)
     refine bl_normal ?_
     refine bl_normal ?_
     exact jk_normal ((imin s41.2.1 x57.X), (imin s41.2.2.1 x57.Y), (isub (imax (iadd s41.2.1 s41.2.2.2.1) (iadd x57.X x57.W)) (imin s41.2.1 x57.X)), (isub (imax (iadd s41.2.2.1 s41.2.2.2.2) (iadd x57.Y x57.H)) (imin s41.2.2.1 x57.Y))) h hτ (here (by kernel_rfl))
  ·replace h := iteF hb h
   refine sem_exitS 0 (by kernel_rfl) rfl (fun τ hτ => ?_)
   refine th_exit ?_
   obtain rfl := Option.some.inj h
   exact lk_outS hτ rfl (here (by kernel_rfl))
 ·intro x
  rfl
 ·intro τ hτ
  refine bl_hit (by kernel_rfl) ?_
  refine th_normalS hτ ⟨[(3, (.ptr 500000 0))], [(500000, .box [(vI x60.1), (vI x60.2.1), (vI x60.2.2.1), (vI x60.2.2.2)])]⟩ (here (by kernel_rfl)) ?_
  refine z8 7 ⟨[(2, (vB (decide ((imin x60.2.2.1 x60.2.2.2) < 7200))))], []⟩ (by kernel_rfl) (fun τ hτ => ?_)
  obtain rfl := Option.some.inj h
  exact rk_ret hτ [(2, (vB (decide ((imin x60.2.2.1 x60.2.2.2) < 7200))))] (here (by kernel_rfl)) (by kernel_rfl)
theorem W.sheetmetalref06_near_ok {n : Int} {r : Bool} (h : sheetmetalref06_near n = some r) : PC G.P 37 [(vI n)] [] (vB r) [] := by
 refine pc_of G (fn := Try.f37) Try.func37 (by kernel_rfl) (by kernel_rfl) (by kernel_rfl) (by kernel_rfl) (by kernel_rfl) ?_
 refine sem_set ⟨[(0, (vI n))], []⟩ (by kernel_rfl) ?_
 refine z3 1 ⟨[(0, (vI n))], []⟩ (by kernel_rfl) ?_
 refine sem_seq (by kernel_rfl) ?_
 obtain ⟨j1, hj1, h⟩ := bindS h
 refine sem_regionC ⟨[(2, (vB j1))], []⟩ (by kernel_rfl) ?_ (fun τ hτ => ?_)
 ·replace h := hj1
  refine evs_run 3 (by kernel_rfl) ?_
  refine evs_split (decide (n ≥ (-1048576))) (fun b0 => ⟨[(0, (vI n)), (5, (vB b0))], []⟩) (by kernel_rfl) (fun hb => ?_) (fun hb => ?_)
  ·replace h := iteT hb h
   refine z6 4 (by kernel_rfl) (fun τ hτ => ?_)
   obtain rfl := Option.some.inj h
   exact leafC hτ (here (by kernel_rfl))
  ·replace h := iteF hb h
   refine z6 4 (by kernel_rfl) (fun τ hτ => ?_)
   obtain rfl := Option.some.inj h
   exact leafC hτ (here (by kernel_rfl))
 refine th_normalS hτ ⟨[(2, (vB j1))], []⟩ (here (by kernel_rfl)) ?_
 refine sem_retS (by kernel_rfl) (fun τ hτ => ?_)
 obtain rfl := Option.some.inj h
 exact rk_ret hτ [(2, (vB j1))] (here (by kernel_rfl)) (by kernel_rfl)
theorem W.sheetmetalref06_Right_ok {r0 : Rect} {r : Bool} (h : sheetmetalref06_Right r0 = some r) : PC G.P 21 [(.agg [(vI r0.X), (vI r0.Y), (vI r0.W), (vI r0.H)])] [] (vB r) [] := by
 refine pc_of G (fn := Try.f21) Try.func21 (by kernel_rfl) (by kernel_rfl) (by kernel_rfl) (by kernel_rfl) (by kernel_rfl) ?_
 refine sem_set ⟨[(0, (.agg [(vI r0.X), (vI r0.Y), (vI r0.W), (vI r0.H)]))], []⟩ (by kernel_rfl) ?_
 refine z3 2 ⟨[(1, (.ptr 1 0))], [(1, .box [(vI r0.X), (vI r0.Y), (vI r0.W), (vI r0.H)])]⟩ (by kernel_rfl) ?_
 refine sem_seq (by kernel_rfl) ?_
 refine sem_seq (by kernel_rfl) ?_
 obtain ⟨j8, hj8, h⟩ := bindS h
 refine sem_regionC ⟨[(1, (.ptr 500000 0)), (32, (vB j8))], [(500000, .box [(vI r0.X), (vI r0.Y), (vI r0.W), (vI r0.H)])]⟩ (by kernel_rfl) ?_ (fun τ hτ => ?_)
 ·replace h := hj8
  refine evs_run 2 (by kernel_rfl) ?_
  obtain ⟨r9, hr9, h⟩ := bindS h
  refine evs_callP [] (by kernel_rfl) (W.sheetmetalref06_near_ok hr9) (by kernel_rfl) (.inl rfl) (by kernel_rfl) ?_
  refine evs_run 2 (by kernel_rfl) ?_
  refine evs_split r9 (fun b0 => ⟨[(1, (.ptr 1 0)), (7, (vB (!b0)))], [(1, .box [(vI r0.X), (vI r0.Y), (vI r0.W), (vI r0.H)])]⟩) (by kernel_rfl) (fun hb => ?_) (fun hb => ?_)
  ·replace h := iteT hb h
   refine evs_run 2 (by kernel_rfl) ?_
   obtain ⟨r10, hr10, h⟩ := bindS h
   refine evs_callP [] (by kernel_rfl) (W.sheetmetalref06_near_ok hr10) (by kernel_rfl) (.inl rfl) (by kernel_rfl) ?_
   refine evs_run 3 (by kernel_rfl) ?_
   refine evs_split r10 (fun b0 => ⟨[(1, (.ptr 1 0)), (13, (vB (!b0)))], [(1, .box [(vI r0.X), (vI r0.Y), (vI r0.W), (vI r0.H)])]⟩) (by kernel_rfl) (fun hb => ?_) (fun hb => ?_)
   ·replace h := iteT hb h
    refine evs_run 5 (by kernel_rfl) ?_
    refine evs_split (decide (r0.W < 1)) (fun b0 => ⟨[(1, (.ptr 1 0)), (18, (vB b0))], [(1, .box [(vI r0.X), (vI r0.Y), (vI r0.W), (vI r0.H)])]⟩) (by kernel_rfl) (fun hb => ?_) (fun hb => ?_)
    ·replace h := iteT hb h
     refine z6 14 (by kernel_rfl) (fun τ hτ => ?_)
     obtain rfl := Option.some.inj h
     exact leafC hτ (subR_prep [] [(1, 500000)] (by kernel_rfl) rfl rfl (by kernel_rfl))
    ·replace h := iteF hb h
     refine evs_run 5 (by kernel_rfl) ?_
     refine evs_split (decide (r0.H < 1)) (fun b0 => ⟨[(1, (.ptr 1 0)), (23, (vB b0))], [(1, .box [(vI r0.X), (vI r0.Y), (vI r0.W), (vI r0.H)])]⟩) (by kernel_rfl) (fun hb => ?_) (fun hb => ?_)
     ·replace h := iteT hb h
      refine z6 9 (by kernel_rfl) (fun τ hτ => ?_)
      obtain rfl := Option.some.inj h
      exact leafC hτ (subR_prep [] [(1, 500000)] (by kernel_rfl) rfl rfl (by kernel_rfl))
     ·replace h := iteF hb h
      refine evs_run 5 (by kernel_rfl) ?_
      refine evs_split (decide (r0.W > 2097152)) (fun b0 => ⟨[(1, (.ptr 1 0)), (28, (vB b0))], [(1, .box [(vI r0.X), (vI r0.Y), (vI r0.W), (vI r0.H)])]⟩) (by kernel_rfl) (fun hb => ?_) (fun hb => ?_)
      ·replace h := iteT hb h
       refine z6 4 (by kernel_rfl) (fun τ hτ => ?_)
       obtain rfl := Option.some.inj h
       exact leafC hτ (subR_prep [] [(1, 500000)] (by kernel_rfl) rfl rfl (by kernel_rfl))
      ·replace h := iteF hb h
       refine z6 4 (by kernel_rfl) (fun τ hτ => ?_)
       obtain rfl := Option.some.inj h
       exact leafC hτ (subR_prep [] [(1, 500000)] (by kernel_rfl) rfl rfl (by kernel_rfl))
   ·replace h := iteF hb h
    refine z6 19 (by kernel_rfl) (fun τ hτ => ?_)
    obtain rfl := Option.some.inj h
    exact leafC hτ (subR_prep [] [(1, 500000)] (by kernel_rfl) rfl rfl (by kernel_rfl))
  ·replace h := iteF hb h
   refine z6 25 (by kernel_rfl) (fun τ hτ => ?_)
   obtain rfl := Option.some.inj h
   exact leafC hτ (subR_prep [] [(1, 500000)] (by kernel_rfl) rfl rfl (by kernel_rfl))
 refine th_normalS hτ ⟨[(1, (.ptr 500000 0)), (32, (vB j8))], [(500000, .box [(vI r0.X), (vI r0.Y), (vI r0.W), (vI r0.H)])]⟩ (here (by kernel_rfl)) ?_
 refine sem_cond j8 (by kernel_rfl) (by kernel_rfl) (fun hb => ?_) (fun hb => ?_)
 ·replace h := iteT hb h
  refine z8 1 ⟨[(2, (vB false))], []⟩ (by kernel_rfl) (fun τ hτ => ?_)
  refine th_ret ?_
  obtain rfl := Option.some.inj h
  exact rk_ret hτ [(2, (vB false))] (here (by kernel_rfl)) (by kernel_rfl)
 ·replace h := iteF hb h
  refine z4 ⟨[(1, (.ptr 500000 0))], [(500000, .box [(vI r0.X), (vI r0.Y), (vI r0.W), (vI r0.H)])]⟩ (by kernel_rfl) ?_
  refine sem_seq (by kernel_rfl) ?_
  obtain ⟨j13, hj13, h⟩ := bindS h
  refine sem_regionC ⟨[(2, (vB j13))], []⟩ (by kernel_rfl) ?_ (fun τ hτ => ?_)
  ·replace h := hj13
   refine evs_run 5 (by kernel_rfl) ?_
   obtain ⟨r14, hr14, h⟩ := bindS h
   refine evs_callP [] (by kernel_rfl) (W.sheetmetalref06_near_ok hr14) (by kernel_rfl) (.inl rfl) (by kernel_rfl) ?_
   refine evs_run 1 (by kernel_rfl) ?_
   refine evs_split r14 (fun b0 => ⟨[(1, (.ptr 500000 0)), (39, (vB b0))], [(500000, .box [(vI r0.X), (vI r0.Y), (vI r0.W), (vI r0.H)])]⟩) (by kernel_rfl) (fun hb => ?_) (fun hb => ?_)
   ·replace h := iteT hb h
    refine evs_run 5 (by kernel_rfl) ?_
    obtain ⟨r15, hr15, h⟩ := bindS h
    refine evs_callP [] (by kernel_rfl) (W.sheetmetalref06_near_ok hr15) (by kernel_rfl) (.inl rfl) (by kernel_rfl) ?_
    refine z6 2 (by kernel_rfl) (fun τ hτ => ?_)
    obtain rfl := Option.some.inj h
    exact leafC hτ (here (by kernel_rfl))
   ·replace h := iteF hb h
    refine z6 8 (by kernel_rfl) (fun τ hτ => ?_)
    obtain rfl := Option.some.inj h
    exact leafC hτ (here (by kernel_rfl))
  refine th_normalS hτ ⟨[(2, (vB j13))], []⟩ (here (by kernel_rfl)) ?_
  refine sem_retS (by kernel_rfl) (fun τ hτ => ?_)
  obtain rfl := Option.some.inj h
  exact rk_ret hτ [(2, (vB j13))] (here (by kernel_rfl)) (by kernel_rfl)
end Go.Proofs.Ytgfjbgoehhnaeaa
