/- The runs along a line of a grid: how the program finds them. -/
import Derived.Test.YtiodkdpfkchkjaaGeomAreaLaw
import Derived.Test.YtiodkdpfkchkjaaGeMO
set_option linter.unusedVariables false
set_option linter.unusedSimpArgs false
set_option linter.unusedSectionVars false
namespace Go.SM
open Go Go.VI Go.Cells
noncomputable def gr_k1 (s70 : Int × Int × (List Segment)) (j403 : Int) : (List Segment) → Option (Int × Int × (List Segment) ⊕ (List Segment)) := fun j456 =>
  some (.inl (j403, (iadd s70.2.1 1), j456))
noncomputable def gr_l2 (side : Int → Option Int) (s70 : Int × Int × (List Segment)) : Int → Option (Int ⊕ Int) := fun s486 =>
  (if (decide (s486 > 0)) then ((side (isub s486 1)).bind fun r498 => some (r498 == s70.1)) else (some false)).bind fun j497 => if j497 then (some (.inl (isub s486 1))) else (some (.inr s486))
noncomputable def gr_k3 (ends : (List Int)) (side : Int → Option Int) (found : Int → Int → List Segment → Option (List Segment)) (s70 : Int × Int × (List Segment)) : Int → Option (Int × Int × (List Segment) ⊕ (List Segment)) := fun j403 =>
  (if (j403 != s70.1) then (some (s70.1 != 0)) else (some false)).bind fun j457 => if j457 then ((loopT (gr_l2 side s70) (isub s70.2.1 1)).bind fun x499 => (idx ends x499).bind fun x506 => (idx ends s70.2.1).bind fun x507 => (found x506 x507 s70.2.2).bind fun r508 => gr_k1 s70 j403 r508) else (gr_k1 s70 j403 s70.2.2)
noncomputable def gr_l4 (ends : (List Int)) (side : Int → Option Int) (found : Int → Int → List Segment → Option (List Segment)) : Int × Int × (List Segment) → Option (Int × Int × (List Segment) ⊕ (List Segment)) := fun s70 =>
  if (decide (s70.2.1 < (ends.length : Int))) then (if (decide (s70.2.1 < (isub (ends.length : Int) 1))) then ((side s70.2.1).bind fun r510 => gr_k3 ends side found s70 r510) else (gr_k3 ends side found s70 0)) else (some (.inr s70.2.2))
noncomputable def gr (ends : (List Int)) (side : Int → Option Int) (found : Int → Int → List Segment → Option (List Segment)) (h1 : (List Segment)) : Option ((List Segment)) :=
  (loopT (gr_l4 ends side found) (0, 0, h1)).bind fun x511 => some x511
theorem runsH_eq (ends : List Int) (M : List (List Bool)) (j y : Int) (h : List Segment) : geom_runs__geom_Outline_2__geom_Outline_3 ends M j y h = gr ends (fun i => geom_Outline_2 i M j) (fun a b h => geom_Outline_3 a b y h) h := rfl
theorem runsV_eq (ends : List Int) (M : List (List Bool)) (j y : Int) (h : List Segment) : geom_runs__geom_Outline_4__geom_Outline_5 ends M j y h = gr ends (fun i => geom_Outline_4 i M j) (fun a b h => geom_Outline_5 a b y h) h := rfl
theorem gsteps_get {β : Type} {f : Int → β} : ∀ {xs : List Int}, GSteps f xs → ∀ {k : Nat} {x x' : Int}, xs[k]? = some x → xs[k + 1]? = some x' → x < x' ∧ ∀ z, x ≤ z → z < x' → f z = f x
  | [], _, k, x, x', h, _ => by simp at h
  | [_], _, k, x, x', _, h => by simp at h
  | a :: b :: t, hs, 0, x, x', h, h' => by
    simp at h h'
    subst h h'
    exact ⟨hs.1, hs.2.1⟩
  | a :: b :: t, hs, k + 1, x, x', h, h' => by
    simp only [List.getElem?_cons_succ] at h h'
    exact gsteps_get hs.2.2 h h'
noncomputable def runsL (s : Int → Int) : List (Int × Int) := open Classical in if h : ∃ L, RunsOf s L then Classical.choose h else []
theorem runsL_eq {s : Int → Int} {L : List (Int × Int)} (h : RunsOf s L) : runsL s = L := by
  unfold runsL
  have hx : ∃ L, RunsOf s L := ⟨L, h⟩
  rw [dif_pos hx]
  exact runs_unique (Classical.choose_spec hx) h
/-- s along the lines xs: the same within each cell, 0 outside -/
structure Along (s : Int → Int) (xs : List Int) : Prop where
  st : GSteps s xs
  len : xs.length ≤ 1000
  low : ∀ x0, xs[0]? = some x0 → ∀ z, z < x0 → s z = 0
  high : ∀ x1, xs[xs.length - 1]? = some x1 → ∀ z, x1 ≤ z → s z = 0
  none : xs = [] → ∀ z, s z = 0
section
variable {s : Int → Int} {xs : List Int} (h : Along s xs)
include h
theorem along_lo : ∃ lo, ∀ z, z < lo → s z = 0 := by
  cases hx : xs[0]? with
  | none => exact ⟨0, fun z _ => h.none (by simpa using hx) z⟩
  | some x0 => exact ⟨x0, h.low x0 hx⟩
theorem before {k : Nat} {x e : Int} (hx : xs[k]? = some x) (he : xs[k + 1]? = some e) : s (e - 1) = s x := by
  obtain ⟨h1, h2⟩ := gsteps_get h.st hx he
  exact h2 _ (by omega) (by omega)
variable {side : Int → Option Int} (hside : ∀ (i : Nat) x, xs[i]? = some x → i + 1 < xs.length → side (i : Int) = some (s x)) {found : Int → Int → List Segment → Option (List Segment)} {mk : Int × Int → Segment} (hfound : ∀ a b (l : List Segment), l.length ≤ 100000000 → found a b l = some (l ++ [mk (a, b)]))
include hside hfound
theorem gr_ok {out0 : List Segment} (hout : out0.length ≤ 90000000) : ∃ L, gr xs side found out0 = some (out0 ++ L.map mk) ∧ RunsOf s L ∧ L.length ≤ xs.length := by
  have hlen := h.len
  obtain ⟨lo, hlo⟩ := along_lo h
  obtain ⟨r, q1, q2⟩ := loop_wf (fun t : Int × Int × List Segment => ((xs.length : Int) - t.2.1).toNat)
    (fun t : Int × Int × List Segment => ∃ k : Nat, t.2.1 = k ∧ k ≤ xs.length ∧ (k = xs.length → ∃ L, t.2.2 = out0 ++ L.map mk ∧ RunsOf s L ∧ L.length ≤ xs.length) ∧
      (∀ e, xs[k]? = some e → ∃ L, RunsOf (cut s e) L ∧ L.length ≤ k ∧ t.1 = s (e - 1) ∧ (t.1 = 0 → t.2.2 = out0 ++ L.map mk) ∧
        (t.1 ≠ 0 → ∃ L0 f a, L = L0 ++ [(a, e)] ∧ xs[f]? = some a ∧ f < k ∧ t.2.2 = out0 ++ L0.map mk ∧ (∀ i x, f ≤ i → i < k → xs[i]? = some x → s x = t.1) ∧ (0 < f → ∀ x, xs[f - 1]? = some x → s x ≠ t.1))))
    (fun r => ∃ L, r = out0 ++ L.map mk ∧ RunsOf s L ∧ L.length ≤ xs.length) (gr_l4 xs side found) (by
      rintro ⟨last, k', out⟩ ⟨k, hk', hk, hend, hI⟩
      simp only at hk' hend hI ⊢
      subst hk'
      unfold gr_l4
      by_cases hkn : k < xs.length
      case neg =>
        right
        have hd : ¬ (k : Int) < (xs.length : Int) := by omega
        exact ⟨out, by simp only [hd, decide_false, Bool.false_eq_true, if_false], hend (by omega)⟩
      left
      have hd : (k : Int) < (xs.length : Int) := by omega
      have hsub : isub (xs.length : Int) 1 = (xs.length : Int) - 1 := isub_eq (by omega) (by omega)
      obtain ⟨e, he⟩ : ∃ e, xs[k]? = some e := ⟨_, List.getElem?_eq_getElem hkn⟩
      obtain ⟨L, hL, hLk, hlast, hzero, hopen⟩ := hI e he
      -- what k3 does
      have close : ∀ now, ∃ out', gr_k3 xs side found (last, (k : Int), out) now = some (.inl (now, ((k + 1 : Nat) : Int), out')) ∧ ((now = last ∨ last = 0) → out' = out) ∧ (now ≠ last → out' = out0 ++ L.map mk) := fun now => by
        unfold gr_k3
        simp only
        by_cases e1 : now = last
        · refine ⟨out, ?_, fun _ => rfl, fun q => absurd e1 q⟩
          have : (now != last) = false := by simp [e1]
          simp only [this, Bool.false_eq_true, if_false, Option.bind_some, gr_k1, succ_cast k (by omega)]
        · have hne : (now != last) = true := by simp [e1]
          by_cases e2 : last = 0
          · refine ⟨out, ?_, fun _ => rfl, fun _ => hzero e2⟩
            have : (last != 0) = false := by simp [e2]
            simp only [hne, if_true, this, Option.bind_some, Bool.false_eq_true, if_false, gr_k1, succ_cast k (by omega)]
          · have hl0 : (last != 0) = true := by simp [e2]
            obtain ⟨L0, f, a, rfl, hfa, hfk, hout', hsame, hprev⟩ := hopen e2
            have hk1 : isub (k : Int) 1 = (k : Int) - 1 := isub_eq (by omega) (by omega)
            have sd : ∀ i : Nat, i < k → ∃ x, xs[i]? = some x ∧ side (i : Int) = some (s x) := fun i hi => by
              obtain ⟨x, hx⟩ : ∃ x, xs[i]? = some x := ⟨_, List.getElem?_eq_getElem (by omega)⟩
              exact ⟨x, hx, hside i x hx (by omega)⟩
            obtain ⟨x, x1, x2, x3, x4, x5⟩ := scan_down (body := gr_l2 side (last, (k : Int), out)) (fun _ => true) (i := (f : Int) + 1) (j := (k : Int) - 1) (by omega) (fun t t1 t2 => by
              obtain ⟨i, hi⟩ : ∃ i : Nat, t = (i : Int) + 1 := ⟨(t - 1).toNat, by omega⟩
              obtain ⟨y, y1, y2⟩ := sd i (by omega)
              have ht : t > 0 := by omega
              have hs1 : isub t 1 = (i : Int) := by rw [isub_eq (by omega) (by omega)]; omega
              have hy := hsame i y (by omega) (by omega) y1
              unfold gr_l2
              have hb : (s y == last) = true := by simp [hy]
              simp only [ht, decide_true, if_true, hs1, y2, Option.bind_some, hb]
              congr 2; omega) (by
              rw [show (f : Int) + 1 - 1 = (f : Int) from by omega]
              unfold gr_l2
              by_cases hf0 : 0 < f
              · obtain ⟨y, y1, y2⟩ := sd (f - 1) (by omega)
                have ht : (f : Int) > 0 := by omega
                have hs1 : isub (f : Int) 1 = ((f - 1 : Nat) : Int) := by rw [isub_eq (by omega) (by omega)]; omega
                have hb : (s y == last) = false := by simp [hprev hf0 y y1]
                simp only [ht, decide_true, if_true, hs1, y2, Option.bind_some, hb, Bool.false_eq_true, if_false]
              · have ht : ¬ (f : Int) > 0 := by omega
                simp only [ht, decide_false, Bool.false_eq_true, if_false, Option.bind_some])
            have hx : x = (f : Int) := by
              rcases Int.lt_or_le x ((f : Int) + 1) with q | q
              · omega
              · have := x5 q; cases this
            refine ⟨out0 ++ (L0 ++ [(a, e)]).map mk, ?_, fun q => q.elim (fun q => absurd q e1) (fun q => absurd q e2), fun _ => rfl⟩
            have hfd := hfound a e out (by rw [hout']; simp at hLk ⊢; omega)
            simp only [hne, if_true, hl0, Option.bind_some, hk1, x1, hx, idx_of hfa, idx_of he, hfd, gr_k1, succ_cast k (by omega)]
            rw [hout']; simp
      have hmu : ∀ (now : Int) (out' : List Segment), ((xs.length : Int) - (now, ((k + 1 : Nat) : Int), out').2.1).toNat < ((xs.length : Int) - (k : Int)).toNat := fun now out' => by simp only; omega
      by_cases hkl : k + 1 < xs.length
      · -- a cell
        have hd2 : (k : Int) < (xs.length : Int) - 1 := by omega
        obtain ⟨e', he'⟩ : ∃ e', xs[k + 1]? = some e' := ⟨_, List.getElem?_eq_getElem hkl⟩
        obtain ⟨hee, hst⟩ := gsteps_get h.st he he'
        obtain ⟨out', c1, c2, c3⟩ := close (s e)
        refine ⟨(s e, ((k + 1 : Nat) : Int), out'), by simp only [hd, decide_true, if_true, hsub, hd2, hside k e he hkl, Option.bind_some, c1], ⟨k + 1, rfl, by omega, fun q => by omega, fun e2 he2 => ?_⟩, hmu _ _⟩
        rw [he'] at he2
        injection he2 with he2
        subst he2
        have hl : s (e' - 1) = s e := hst _ (by omega) (by omega)
        simp only [hl]
        have hprev : ∀ x, 0 < k → xs[k - 1]? = some x → s x = last := fun x hk0 hx => by
          rw [hlast]
          exact (before h (k := k - 1) hx (by rw [show k - 1 + 1 = k from by omega]; exact he)).symm
        by_cases e0 : s e = 0
        · refine ⟨L, runs_zero hL hee hst e0, by omega, by trivial, fun _ => ?_, fun q => absurd e0 q⟩
          by_cases e1 : last = 0
          · rw [c2 (.inr e1)]; exact hzero e1
          · exact c3 (fun q => e1 (by rw [← q]; exact e0))
        · by_cases e1 : s e = last
          · obtain ⟨l0, a, hla, hrun⟩ := runs_more hL hee hst hlo e0 (by rw [← hlast]; exact e1.symm)
            obtain ⟨L0, f, a', hLe, hfa, hfk, hout', hsame, hpv⟩ := hopen (by rw [← e1]; exact e0)
            rw [hla] at hLe
            obtain ⟨rfl, e2⟩ := List.append_inj' hLe rfl
            injection e2 with e2 _
            injection e2 with e2 _
            subst e2
            refine ⟨l0 ++ [(a, e')], hrun, by rw [hla] at hLk; simp at hLk ⊢; omega, by trivial, fun q => absurd q e0, fun _ => ⟨l0, f, a, rfl, hfa, by omega, by rw [c2 (.inl e1)]; exact hout', fun i x i1 i2 hx => ?_, fun hf x hx => ?_⟩⟩
            · by_cases e3 : i < k
              · rw [hsame i x i1 e3 hx, e1]
              · obtain rfl : i = k := by omega
                rw [he] at hx; injection hx with hx; rw [hx]
            · rw [e1]; exact hpv hf x hx
          · refine ⟨L ++ [(e, e')], runs_new hL hee hst e0 (by rw [← hlast]; exact fun q => e1 q.symm), by simp; omega, by trivial, fun q => absurd q e0, fun _ => ⟨L, k, e, rfl, he, by omega, c3 e1, fun i x i1 i2 hx => ?_, fun hf x hx => ?_⟩⟩
            · obtain rfl : i = k := by omega
              rw [he] at hx; injection hx with hx; rw [hx]
            · rw [hprev x hf hx]; exact fun q => e1 q.symm
      · -- the end
        have hd2 : ¬ (k : Int) < (xs.length : Int) - 1 := by omega
        obtain ⟨out', c1, c2, c3⟩ := close 0
        refine ⟨(0, ((k + 1 : Nat) : Int), out'), by simp only [hd, decide_true, if_true, hsub, hd2, decide_false, Bool.false_eq_true, if_false, c1], ⟨k + 1, rfl, by omega, fun _ => ⟨L, ?_, ?_, by omega⟩, fun e2 he2 => by have := lt_of_get he2; omega⟩, hmu _ _⟩
        · by_cases e1 : last = 0
          · rw [c2 (.inr e1)]; exact hzero e1
          · exact c3 (fun q => e1 q.symm)
        · exact runs_end hL (h.high e (by rw [show xs.length - 1 = k from by omega]; exact he))) (0, 0, out0)
      ⟨0, rfl, by omega, fun q => ⟨[], by simp, by
        have : xs = [] := List.eq_nil_of_length_eq_zero q.symm
        have hz := h.none this
        refine ⟨.nil, fun a b => ⟨fun m => by simp at m, fun m => absurd (hz a) m.2.1⟩⟩, by simp⟩, fun e he => ⟨[], runs_start (h.low e he), by simp, (h.low e he _ (by omega)).symm, fun _ => by simp, fun q => absurd rfl q⟩⟩
  obtain ⟨L, rfl, q3, q4⟩ := q2
  exact ⟨L, by unfold gr; rw [q1]; rfl, q3, q4⟩
end
end Go.SM
