/- The law GeomOutlines, on the models. -/
import Derived.Test.YtiodkdpfkchkjaaGeomOut
set_option linter.unusedVariables false
set_option linter.unusedSimpArgs false
set_option linter.unusedSectionVars false
namespace Go.SM
open Go Go.VI Go.Cells
theorem last_get {β : Type} (o : List β) (x : β) (hl : o.length ≤ 100000000) : idx (o ++ [x]) (isub ((o ++ [x]).length : Int) 1) = some x ∧ (∀ y, List.set (o ++ [x]) (Int.toNat (isub ((o ++ [x]).length : Int) 1)) y = o ++ [y]) := by
  have e : isub ((o ++ [x]).length : Int) 1 = (o.length : Int) := by
    have hL : ((o ++ [x]).length : Int) = (o.length : Int) + 1 := by simp
    rw [hL, isub_eq (by omega) (by omega)]; omega
  rw [e]
  constructor
  · rw [idx_nat]; simp
  · intro y
    rw [Int.toNat_natCast, List.set_append_right _ _ (Nat.le_refl _), Nat.sub_self]; rfl
section
variable {xs ys : List Int} {l : List Rect} (h : Has xs ys l)
include h
theorem refH {j : Nat} {y : Int} (hy : ys[j]? = some y) (b : List Segment) {out0 : List Segment} (hout : out0.length ≤ 90000000) :
    loopT (sheetmetalref01_Outline_l5 (⟨xs, ys, mat xs ys (cov l)⟩, xs, ys) ((j : Int), b)) (0, 0, out0) = some (out0 ++ (runsL (hl (cov l) y)).map (mkH y)) ∧ (runsL (hl (cov l) y)).length ≤ xs.length := by
  have hlen := h.X.len
  have hA := along_h h y
  obtain ⟨s, hs⟩ : ∃ s, hl (cov l) y = s := ⟨_, rfl⟩
  rw [hs] at hA ⊢
  obtain ⟨lo, hlo⟩ := along_lo hA
  obtain ⟨r, q1, L, q2, q3, q4⟩ := loop_wf (fun t : Int × Int × List Segment => ((xs.length : Int) - t.2.1).toNat)
    (fun t : Int × Int × List Segment => ∃ k : Nat, t.2.1 = k ∧ k ≤ xs.length ∧ (k = xs.length → ∃ L, t.2.2 = out0 ++ L.map (mkH y) ∧ RunsOf s L ∧ L.length ≤ xs.length) ∧
      (∀ e, xs[k]? = some e → ∃ L, RunsOf (cut s e) L ∧ L.length ≤ k ∧ t.1 = s (e - 1) ∧ t.2.2 = out0 ++ L.map (mkH y)))
    (fun r => ∃ L, r = out0 ++ L.map (mkH y) ∧ RunsOf s L ∧ L.length ≤ xs.length) (sheetmetalref01_Outline_l5 (⟨xs, ys, mat xs ys (cov l)⟩, xs, ys) ((j : Int), b)) (by
      rintro ⟨last, k', out⟩ ⟨k, hk', hk, hend, hI⟩
      simp only at hk' hend hI ⊢
      subst hk'
      unfold sheetmetalref01_Outline_l5
      by_cases hkn : k < xs.length
      case neg =>
        right
        have hd : ¬ (k : Int) < (xs.length : Int) := by omega
        exact ⟨out, by simp only [hd, decide_false, Bool.false_eq_true, if_false], hend (by omega)⟩
      left
      have hd : (k : Int) < (xs.length : Int) := by omega
      obtain ⟨e, he⟩ : ∃ e, xs[k]? = some e := ⟨_, List.getElem?_eq_getElem hkn⟩
      obtain ⟨L, hL, hLk, hlast, hout'⟩ := hI e he
      obtain ⟨_, bb, b1, b2, b3⟩ := sideH h he hy
      have hse : s e = one (cov l e y) - one bb := by rw [← hs, b3]; rfl
      -- the body is what the side says
      have body : ∀ w, w = s e → (sheetmetalref01_Outline_k3 (⟨xs, ys, mat xs ys (cov l)⟩, xs, ys) ((j : Int), b) (last, (k : Int), out) w) = (if decide ((k : Int) < (xs.length : Int)) then (((sheetmetalref01_Grid_At ⟨xs, ys, mat xs ys (cov l)⟩ (k : Int) (j : Int)).bind fun r4797 => if r4797 then ((sheetmetalref01_Grid_At ⟨xs, ys, mat xs ys (cov l)⟩ (k : Int) (isub (j : Int) 1)).bind fun r4798 => some (!r4798)) else (some false)).bind fun j4796 => if j4796 then (sheetmetalref01_Outline_k4 (⟨xs, ys, mat xs ys (cov l)⟩, xs, ys) ((j : Int), b) (last, (k : Int), out) 1) else (sheetmetalref01_Outline_k4 (⟨xs, ys, mat xs ys (cov l)⟩, xs, ys) ((j : Int), b) (last, (k : Int), out) 0)) else (some (.inr out))) := fun w hw => by
        unfold sheetmetalref01_Outline_k4
        simp only [hd, decide_true, if_true, b1, b2, Option.bind_some]
        rw [hw, hse]
        cases cov l e y <;> cases bb <;> rfl
      rw [← body (s e) rfl]
      unfold sheetmetalref01_Outline_k3 sheetmetalref01_Outline_k2 sheetmetalref01_Outline_k1
      simp only [succ_cast k (by omega)]
      by_cases hkl : k + 1 < xs.length
      · obtain ⟨e', he'⟩ : ∃ e', xs[k + 1]? = some e' := ⟨_, List.getElem?_eq_getElem hkl⟩
        obtain ⟨hee, hst⟩ := gsteps_get hA.st he he'
        have hl : s (e' - 1) = s e := hst _ (by omega) (by omega)
        by_cases e0 : s e = 0
        · refine ⟨(s e, ((k + 1 : Nat) : Int), out), ?_, ⟨k + 1, rfl, by omega, fun q => by omega, fun e2 he2 => ?_⟩, by simp only; omega⟩
          · have : (s e != 0) = false := by simp [e0]
            simp only [this, Bool.false_eq_true, if_false, Option.bind_some]
          · rw [he'] at he2; injection he2 with he2; subst he2
            exact ⟨L, runs_zero hL hee hst e0, by omega, hl.symm, hout'⟩
        · have hne : (s e != 0) = true := by simp [e0]
          by_cases e1 : s e = last
          · obtain ⟨l0, a, hla, hrun⟩ := runs_more hL hee hst hlo e0 (by rw [← hlast]; exact e1.symm)
            refine ⟨(s e, ((k + 1 : Nat) : Int), out0 ++ (l0 ++ [(a, e')]).map (mkH y)), ?_, ⟨k + 1, rfl, by omega, fun q => by omega, fun e2 he2 => ?_⟩, by simp only; omega⟩
            · have eo : out = (out0 ++ l0.map (mkH y)) ++ [mkH y (a, e)] := by rw [hout', hla]; simp
              have hll : (out0 ++ l0.map (mkH y)).length ≤ 100000000 := by rw [hla] at hLk; simp at hLk ⊢; omega
              obtain ⟨g1, g2⟩ := last_get (out0 ++ l0.map (mkH y)) (mkH y (a, e)) hll
              have hb : (s e == last) = true := by simp [e1]
              have hb2 : (s e != last) = false := by simp [e1]
              rw [eo]
              simp only [hne, if_true, hb, hb2, Option.bind_some, idx_of he', g1, g2, Bool.false_eq_true, if_false]
              simp [mkH]
            · rw [he'] at he2; injection he2 with he2; subst he2
              exact ⟨l0 ++ [(a, e')], hrun, by rw [hla] at hLk; simp at hLk ⊢; omega, hl.symm, rfl⟩
          · refine ⟨(s e, ((k + 1 : Nat) : Int), out0 ++ (L ++ [(e, e')]).map (mkH y)), ?_, ⟨k + 1, rfl, by omega, fun q => by omega, fun e2 he2 => ?_⟩, by simp only; omega⟩
            · have hb : (s e == last) = false := by simp [e1]
              have hb2 : (s e != last) = true := by simp [e1]
              simp only [hne, if_true, hb, hb2, Option.bind_some, idx_of he', idx_of he, idx_of hy, Bool.false_eq_true, if_false]
              rw [app_eq (by rw [hout']; simp [LIM]; omega)]
              simp [hout', mkH]
            · rw [he'] at he2; injection he2 with he2; subst he2
              exact ⟨L ++ [(e, e')], runs_new hL hee hst e0 (by rw [← hlast]; exact fun q => e1 q.symm), by simp; omega, hl.symm, rfl⟩
      · have e0 : s e = 0 := hA.high e (by rw [show xs.length - 1 = k from by omega]; exact he) e (Int.le_refl _)
        refine ⟨(s e, ((k + 1 : Nat) : Int), out), ?_, ⟨k + 1, rfl, by omega, fun _ => ⟨L, hout', ?_, by omega⟩, fun e2 he2 => by have := lt_of_get he2; omega⟩, by simp only; omega⟩
        · have : (s e != 0) = false := by simp [e0]
          simp only [this, Bool.false_eq_true, if_false, Option.bind_some]
        · exact runs_end hL (hA.high e (by rw [show xs.length - 1 = k from by omega]; exact he))) (0, 0, out0)
      ⟨0, rfl, by omega, fun q => ⟨[], by simp, by
        have : xs = [] := List.eq_nil_of_length_eq_zero q.symm
        have hz := hA.none this
        refine ⟨.nil, fun a b => ⟨fun m => by simp at m, fun m => absurd (hz a) m.2.1⟩⟩, by simp⟩, fun e he => ⟨[], runs_start (hA.low e he), by simp, (hA.low e he _ (by omega)).symm, by simp⟩⟩
  rw [runsL_eq q3, q1, q2]
  exact ⟨rfl, q4⟩
theorem refV {i : Nat} {x : Int} (hx : xs[i]? = some x) (b : List Segment) {out0 : List Segment} (hout : out0.length ≤ 90000000) :
    loopT (sheetmetalref01_Outline_l11 (⟨xs, ys, mat xs ys (cov l)⟩, xs, ys) ((i : Int), b)) (0, 0, out0) = some (out0 ++ (runsL (vl (cov l) x)).map (mkV x)) ∧ (runsL (vl (cov l) x)).length ≤ ys.length := by
  have hlen := h.Y.len
  have hA := along_v h x
  obtain ⟨s, hs⟩ : ∃ s, vl (cov l) x = s := ⟨_, rfl⟩
  rw [hs] at hA ⊢
  obtain ⟨lo, hlo⟩ := along_lo hA
  obtain ⟨r, q1, L, q2, q3, q4⟩ := loop_wf (fun t : Int × Int × List Segment => ((ys.length : Int) - t.2.1).toNat)
    (fun t : Int × Int × List Segment => ∃ k : Nat, t.2.1 = k ∧ k ≤ ys.length ∧ (k = ys.length → ∃ L, t.2.2 = out0 ++ L.map (mkV x) ∧ RunsOf s L ∧ L.length ≤ ys.length) ∧
      (∀ e, ys[k]? = some e → ∃ L, RunsOf (cut s e) L ∧ L.length ≤ k ∧ t.1 = s (e - 1) ∧ t.2.2 = out0 ++ L.map (mkV x)))
    (fun r => ∃ L, r = out0 ++ L.map (mkV x) ∧ RunsOf s L ∧ L.length ≤ ys.length) (sheetmetalref01_Outline_l11 (⟨xs, ys, mat xs ys (cov l)⟩, xs, ys) ((i : Int), b)) (by
      rintro ⟨last, k', out⟩ ⟨k, hk', hk, hend, hI⟩
      simp only at hk' hend hI ⊢
      subst hk'
      unfold sheetmetalref01_Outline_l11
      by_cases hkn : k < ys.length
      case neg =>
        right
        have hd : ¬ (k : Int) < (ys.length : Int) := by omega
        exact ⟨out, by simp only [hd, decide_false, Bool.false_eq_true, if_false], hend (by omega)⟩
      left
      have hd : (k : Int) < (ys.length : Int) := by omega
      obtain ⟨e, he⟩ : ∃ e, ys[k]? = some e := ⟨_, List.getElem?_eq_getElem hkn⟩
      obtain ⟨L, hL, hLk, hlast, hout'⟩ := hI e he
      obtain ⟨_, bb, b1, b2, b3⟩ := sideV h hx he
      have hse : s e = one (cov l x e) - one bb := by rw [← hs, b3]; rfl
      have body : ∀ w, w = s e → (sheetmetalref01_Outline_k9 (⟨xs, ys, mat xs ys (cov l)⟩, xs, ys) ((i : Int), b) (last, (k : Int), out) w) = (if decide ((k : Int) < (ys.length : Int)) then (((sheetmetalref01_Grid_At ⟨xs, ys, mat xs ys (cov l)⟩ (i : Int) (k : Int)).bind fun r4797 => if r4797 then ((sheetmetalref01_Grid_At ⟨xs, ys, mat xs ys (cov l)⟩ (isub (i : Int) 1) (k : Int)).bind fun r4798 => some (!r4798)) else (some false)).bind fun j4796 => if j4796 then (sheetmetalref01_Outline_k10 (⟨xs, ys, mat xs ys (cov l)⟩, xs, ys) ((i : Int), b) (last, (k : Int), out) 1) else (sheetmetalref01_Outline_k10 (⟨xs, ys, mat xs ys (cov l)⟩, xs, ys) ((i : Int), b) (last, (k : Int), out) 0)) else (some (.inr out))) := fun w hw => by
        unfold sheetmetalref01_Outline_k10
        simp only [hd, decide_true, if_true, b1, b2, Option.bind_some]
        rw [hw, hse]
        cases cov l x e <;> cases bb <;> rfl
      rw [← body (s e) rfl]
      unfold sheetmetalref01_Outline_k9 sheetmetalref01_Outline_k8 sheetmetalref01_Outline_k7
      simp only [succ_cast k (by omega)]
      by_cases hkl : k + 1 < ys.length
      · obtain ⟨e', he'⟩ : ∃ e', ys[k + 1]? = some e' := ⟨_, List.getElem?_eq_getElem hkl⟩
        obtain ⟨hee, hst⟩ := gsteps_get hA.st he he'
        have hl : s (e' - 1) = s e := hst _ (by omega) (by omega)
        by_cases e0 : s e = 0
        · refine ⟨(s e, ((k + 1 : Nat) : Int), out), ?_, ⟨k + 1, rfl, by omega, fun q => by omega, fun e2 he2 => ?_⟩, by simp only; omega⟩
          · have : (s e != 0) = false := by simp [e0]
            simp only [this, Bool.false_eq_true, if_false, Option.bind_some]
          · rw [he'] at he2; injection he2 with he2; subst he2
            exact ⟨L, runs_zero hL hee hst e0, by omega, hl.symm, hout'⟩
        · have hne : (s e != 0) = true := by simp [e0]
          by_cases e1 : s e = last
          · obtain ⟨l0, a, hla, hrun⟩ := runs_more hL hee hst hlo e0 (by rw [← hlast]; exact e1.symm)
            refine ⟨(s e, ((k + 1 : Nat) : Int), out0 ++ (l0 ++ [(a, e')]).map (mkV x)), ?_, ⟨k + 1, rfl, by omega, fun q => by omega, fun e2 he2 => ?_⟩, by simp only; omega⟩
            · have eo : out = (out0 ++ l0.map (mkV x)) ++ [mkV x (a, e)] := by rw [hout', hla]; simp
              have hll : (out0 ++ l0.map (mkV x)).length ≤ 100000000 := by rw [hla] at hLk; simp at hLk ⊢; omega
              obtain ⟨g1, g2⟩ := last_get (out0 ++ l0.map (mkV x)) (mkV x (a, e)) hll
              have hb : (s e == last) = true := by simp [e1]
              have hb2 : (s e != last) = false := by simp [e1]
              rw [eo]
              simp only [hne, if_true, hb, hb2, Option.bind_some, idx_of he', g1, g2, Bool.false_eq_true, if_false]
              simp [mkV]
            · rw [he'] at he2; injection he2 with he2; subst he2
              exact ⟨l0 ++ [(a, e')], hrun, by rw [hla] at hLk; simp at hLk ⊢; omega, hl.symm, rfl⟩
          · refine ⟨(s e, ((k + 1 : Nat) : Int), out0 ++ (L ++ [(e, e')]).map (mkV x)), ?_, ⟨k + 1, rfl, by omega, fun q => by omega, fun e2 he2 => ?_⟩, by simp only; omega⟩
            · have hb : (s e == last) = false := by simp [e1]
              have hb2 : (s e != last) = true := by simp [e1]
              simp only [hne, if_true, hb, hb2, Option.bind_some, idx_of he', idx_of he, idx_of hx, Bool.false_eq_true, if_false]
              rw [app_eq (by rw [hout']; simp [LIM]; omega)]
              simp [hout', mkV]
            · rw [he'] at he2; injection he2 with he2; subst he2
              exact ⟨L ++ [(e, e')], runs_new hL hee hst e0 (by rw [← hlast]; exact fun q => e1 q.symm), by simp; omega, hl.symm, rfl⟩
      · have e0 : s e = 0 := hA.high e (by rw [show ys.length - 1 = k from by omega]; exact he) e (Int.le_refl _)
        refine ⟨(s e, ((k + 1 : Nat) : Int), out), ?_, ⟨k + 1, rfl, by omega, fun _ => ⟨L, hout', ?_, by omega⟩, fun e2 he2 => by have := lt_of_get he2; omega⟩, by simp only; omega⟩
        · have : (s e != 0) = false := by simp [e0]
          simp only [this, Bool.false_eq_true, if_false, Option.bind_some]
        · exact runs_end hL (hA.high e (by rw [show ys.length - 1 = k from by omega]; exact he))) (0, 0, out0)
      ⟨0, rfl, by omega, fun q => ⟨[], by simp, by
        have : ys = [] := List.eq_nil_of_length_eq_zero q.symm
        have hz := hA.none this
        refine ⟨.nil, fun a b => ⟨fun m => by simp at m, fun m => absurd (hz a) m.2.1⟩⟩, by simp⟩, fun e he => ⟨[], runs_start (hA.low e he), by simp, (hA.low e he _ (by omega)).symm, by simp⟩⟩
  rw [runsL_eq q3, q1, q2]
  exact ⟨rfl, q4⟩
theorem rOutline_loops : ∃ r, loopT (sheetmetalref01_Outline_l6 (⟨xs, ys, mat xs ys (cov l)⟩, xs, ys)) (0, []) = some r ∧ loopT (sheetmetalref01_Outline_l12 (⟨xs, ys, mat xs ys (cov l)⟩, xs, ys)) (0, r) = some (outl (cov l) xs ys) := by
  have hX := h.X.len
  have hY := h.Y.len
  obtain ⟨r, q1, q2, q3⟩ := loop_rel ys (fun k (s : List Segment) => ((k : Int), s)) (sheetmetalref01_Outline_l6 (⟨xs, ys, mat xs ys (cov l)⟩, xs, ys)) (fun s => s) (fun k s => s = (ys.take k).flatMap (fun y => (runsL (hl (cov l) y)).map (mkH y)) ∧ s.length ≤ 1000 * k) [] ⟨rfl, by simp⟩
    (fun k y s hy hI => by
      have hk := lt_of_get hy
      have hd : decide ((k : Int) < (ys.length : Int)) = true := by simp [hk]
      obtain ⟨g1, g3⟩ := refH h hy s (out0 := s) (by omega)
      unfold sheetmetalref01_Outline_l6
      simp only [hd, if_true, g1, Option.bind_some, succ_cast k (by omega)]
      refine ⟨_, rfl, ?_, by simp; omega⟩
      rw [take_snoc hy, List.flatMap_append, hI.1]
      simp) (fun s _ => by simp [sheetmetalref01_Outline_l6])
  rw [List.take_length] at q2
  obtain ⟨r', t1, t2, t3⟩ := loop_rel xs (fun k (s : List Segment) => ((k : Int), s)) (sheetmetalref01_Outline_l12 (⟨xs, ys, mat xs ys (cov l)⟩, xs, ys)) (fun s => s) (fun k s => s = r ++ (xs.take k).flatMap (fun x => (runsL (vl (cov l) x)).map (mkV x)) ∧ s.length ≤ 1000000 + 1000 * k) r ⟨by simp, by omega⟩
    (fun k x s hx hI => by
      have hk := lt_of_get hx
      have hd : decide ((k : Int) < (xs.length : Int)) = true := by simp [hk]
      obtain ⟨g1, g3⟩ := refV h hx s (out0 := s) (by omega)
      unfold sheetmetalref01_Outline_l12
      simp only [hd, if_true, g1, Option.bind_some, succ_cast k (by omega)]
      refine ⟨_, rfl, ?_, by simp; omega⟩
      rw [take_snoc hx, List.flatMap_append, hI.1]
      simp) (fun s _ => by simp [sheetmetalref01_Outline_l12])
  rw [List.take_length] at t2
  have e : r' = outl (cov l) xs ys := by rw [t2, q2]; rfl
  exact ⟨r, by rw [show ((0 : Int), ([] : List Segment)) = (((0 : Nat) : Int), []) from rfl, q1], by rw [show ((0 : Int), r) = (((0 : Nat) : Int), r) from rfl, t1, e]⟩
end
theorem rOutline_ok {l : List Rect} (hc : codeL [l] = 0) {xs ys : List Int} (gx : IsGrid xs (xsL l)) (gy : IsGrid ys (ysL l)) : sheetmetalref01_Outline l = some (outl (cov l) xs ys, 0) := by
  obtain ⟨hl, hv⟩ := code_one hc
  obtain ⟨xs1, ys1, m1, m2, m3, _⟩ := makeGrid_ok (lines := l) (l := l) hv (by omega) hv (by omega)
  obtain rfl := grid_unique gx m2
  obtain rfl := grid_unique gy m3
  have hH := has_of hv (by omega) gx gy (fun r hr => hr)
  obtain ⟨r, o1, o2⟩ := rOutline_loops hH
  unfold sheetmetalref01_Outline
  rw [checkRects_ok, Option.bind_some]
  simp only [hc, bne_self_eq_false, Bool.false_eq_true, if_false, m1, Option.bind_some, o1, o2]
theorem copyRects_ok {l : List Rect} (hl : l.length ≤ 1000) : sheetmetalref01_CopyRects l = some l := by
  unfold sheetmetalref01_CopyRects
  obtain ⟨r, q1, q2⟩ := loop_rel l (fun k (s : List Rect) => ((k : Int), s)) (sheetmetalref01_CopyRects_l1 l) (fun s => s) (fun k s => s = l.take k) [] (by simp)
    (fun k x s hx hI => by
      have h1 := lt_of_get hx
      have hd : decide ((k : Int) < (l.length : Int)) = true := by simp [h1]
      unfold sheetmetalref01_CopyRects_l1
      simp only [hd, if_true, idx_of hx, Option.bind_some, succ_cast k (by omega)]
      rw [app_eq (by subst hI; simp [LIM]; omega)]
      exact ⟨_, rfl, by rw [take_snoc hx, hI]⟩) (fun s _ => by simp [sheetmetalref01_CopyRects_l1])
  rw [List.take_length] at q2
  rw [show ((0 : Int), ([] : List Rect)) = (((0 : Nat) : Int), []) from rfl, q1, q2]; rfl
theorem sameRects_self {l : List Rect} (hl : l.length ≤ 1000) : sheetmetalref01_SameRects l l = some true := by
  unfold sheetmetalref01_SameRects
  simp only [bne_self_eq_false, Bool.false_eq_true, if_false]
  rw [loop_all l (sheetmetalref01_SameRects_l1 l l) (fun _ => true) (.inl ()) (.inr ()) (fun k x hx => ?s) ?f]
  · simp
  case s =>
    have h1 := lt_of_get hx
    unfold sheetmetalref01_SameRects_l1
    simp [h1, idx_of hx, succ_cast k (show (k : Int) < 9223372036854775807 by omega)]
  case f => simp [sheetmetalref01_SameRects_l1]
def segEq (a b : Segment) : Bool := (a.X1 == b.X1) && ((a.Y1 == b.Y1) && ((a.X2 == b.X2) && ((a.Y2 == b.Y2) && true)))
theorem segEq_iff {a b : Segment} : segEq a b = true ↔ a = b := by
  unfold segEq
  cases a; cases b
  simp
theorem sameSegments_ok {a b : List Segment} (ha : a.length ≤ 100000000) (hb : b.length ≤ 100000000) : ∃ s, sheetmetalref01_SameSegments a b = some s ∧ (s = true ↔ a = b) := by
  unfold sheetmetalref01_SameSegments
  by_cases hl : a.length = b.length
  · have e : ((a.length : Int) != (b.length : Int)) = false := by rw [hl]; simp
    simp only [e, Bool.false_eq_true, if_false]
    rw [loop_all (List.range a.length) (sheetmetalref01_SameSegments_l1 a b) (fun i => segEq (a.getD i ⟨0, 0, 0, 0⟩) (b.getD i ⟨0, 0, 0, 0⟩)) (.inl ()) (.inr ()) (fun k x hx => ?s) ?f]
    · rw [Option.bind_some]
      by_cases hab : a = b
      · have : (List.range a.length).all (fun i => segEq (a.getD i ⟨0, 0, 0, 0⟩) (b.getD i ⟨0, 0, 0, 0⟩)) = true := by
          rw [List.all_eq_true]; intro i _; rw [segEq_iff, hab]
        rw [this]; exact ⟨true, rfl, by simp [hab]⟩
      · have : (List.range a.length).all (fun i => segEq (a.getD i ⟨0, 0, 0, 0⟩) (b.getD i ⟨0, 0, 0, 0⟩)) = false := by
          rw [← Bool.not_eq_true, List.all_eq_true]
          intro q
          refine hab (List.ext_getElem? fun i => ?_)
          by_cases hi : i < a.length
          · have := segEq_iff.1 (q i (List.mem_range.2 hi))
            rw [List.getD_eq_getElem?_getD, List.getD_eq_getElem?_getD, List.getElem?_eq_getElem hi, List.getElem?_eq_getElem (show i < b.length by omega)] at this
            rw [List.getElem?_eq_getElem hi, List.getElem?_eq_getElem (show i < b.length by omega)]
            exact congrArg some this
          · rw [List.getElem?_eq_none (by omega), List.getElem?_eq_none (by omega)]
        rw [this]; exact ⟨false, rfl, by simp [hab]⟩
    case s =>
      obtain ⟨rfl, hk⟩ : x = k ∧ k < a.length := by
        have := lt_of_get hx
        simp at this
        rw [List.getElem?_range this] at hx
        exact ⟨(Option.some.inj hx).symm, this⟩
      have g1 : a[x]? = some a[x] := List.getElem?_eq_getElem hk
      have g2 : b[x]? = some (b[x]'(by omega)) := List.getElem?_eq_getElem (by omega)
      have hd : decide ((x : Int) < (a.length : Int)) = true := by simp [hk]
      unfold sheetmetalref01_SameSegments_l1
      simp only [hd, if_true, idx_of g1, idx_of g2, Option.bind_some, getD_of g1, getD_of g2, succ_cast x (by omega)]
      show (if (!(segEq a[x] (b[x]'(by omega)))) then _ else _) = _
      cases segEq a[x] (b[x]'(by omega)) <;> rfl
    case f => simp [sheetmetalref01_SameSegments_l1]
  · have e : ((a.length : Int) != (b.length : Int)) = true := by simp; omega
    simp only [e, if_true]
    exact ⟨false, rfl, by simp; intro h; exact hl (by rw [h])⟩
theorem sameSegments_self {a : List Segment} (ha : a.length ≤ 100000000) : sheetmetalref01_SameSegments a a = some true := by
  obtain ⟨s, h1, h2⟩ := sameSegments_ok ha ha
  rw [h1, h2.2 rfl]
theorem law_GeomOutlines (l : List Rect) : sheetmetallaw01_GeomOutlines l = some true := by
  unfold sheetmetallaw01_GeomOutlines sheetmetallaw01_Many
  simp only [Option.bind_some, known_eq]
  by_cases h1 : (l.length : Int) > 60
  · simp [h1]
  have hl : l.length ≤ 1000 := by omega
  simp only [h1, decide_false, Bool.false_eq_true, if_false, copyRects_ok hl, Option.bind_some, sameRects_self hl, if_true]
  by_cases hc : codeL [l] = 0
  · obtain ⟨xs, ys, o1, o2, o3, o4⟩ := Outline_ok hc
    rw [o1, rOutline_ok hc o2 o3]
    simp only [Option.bind_some, beq_self_eq_true, if_true, sameSegments_self (show (outl (cov l) xs ys).length ≤ 100000000 by omega)]
  · have e1 : geom_Outline l = some ([], codeL [l]) := by
      unfold geom_Outline
      rw [rects_ok (by simp), Option.bind_some]
      simp [hc]
    have e2 : sheetmetalref01_Outline l = some ([], codeL [l]) := by
      unfold sheetmetalref01_Outline
      rw [checkRects_ok, Option.bind_some]
      simp [hc]
    rw [e1, e2]
    simp only [Option.bind_some, beq_self_eq_true, if_true, sameSegments_self (show ([] : List Segment).length ≤ 100000000 by simp)]
end Go.SM
