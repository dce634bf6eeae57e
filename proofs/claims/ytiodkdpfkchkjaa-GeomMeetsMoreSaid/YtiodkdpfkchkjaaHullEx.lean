/- Every list of points has a hull; differences of points; the document's answer whether two hulls meet. -/
import Derived.Test.YtiodkdpfkchkjaaHullMeets
import Derived.Test.YtiodkdpfkchkjaaGeMN
set_option linter.unusedVariables false
set_option linter.unusedSimpArgs false
set_option linter.unusedSectionVars false
namespace Go.SM
open Go Go.VI Go.Geo R3
theorem asc_exists (l : List Point) : ∃ d : List Point, d.Pairwise ltQ ∧ ∀ x, x ∈ d ↔ x ∈ l := by
  induction l with
  | nil => exact ⟨[], List.Pairwise.nil, fun _ => Iff.rfl⟩
  | cons x l ih =>
    obtain ⟨d, d1, d2⟩ := ih
    classical
    refine ⟨d.filter (fun y => decide (ltQ y x)) ++ x :: d.filter (fun y => decide (ltQ x y)), ?_, fun y => ?_⟩
    · rw [List.pairwise_append]
      refine ⟨d1.filter _, List.pairwise_cons.2 ⟨fun y hy => ?_, d1.filter _⟩, fun a ha b hb => ?_⟩
      · rw [List.mem_filter, decide_eq_true_eq] at hy; exact hy.2
      · rw [List.mem_filter, decide_eq_true_eq] at ha
        rcases List.mem_cons.1 hb with rfl | hb
        · exact ha.2
        · rw [List.mem_filter, decide_eq_true_eq] at hb
          exact ltQ_trans ha.2 hb.2
    · rw [List.mem_append, List.mem_cons, List.mem_cons, List.mem_filter, List.mem_filter, decide_eq_true_eq, decide_eq_true_eq, d2]
      constructor
      · rintro (h | h | h)
        · exact .inr h.1
        · exact .inl h
        · exact .inr h.1
      · rintro (h | h)
        · exact .inr (.inl h)
        · rcases ltQ_tri y x with q | q | q
          · exact .inr (.inl q)
          · exact .inl ⟨h, q⟩
          · exact .inr (.inr ⟨h, q⟩)
theorem ch_exists {lt : Point → Point → Prop} (H : Plane orR lt) {d : List Point} (hd : d.Pairwise lt) (hne : d ≠ []) : ∃ st, Ch orR lt d st := by
  have go : ∀ k, k < d.length → ∃ st, Ch orR lt (d.take (k + 1)) st := by
    intro k
    induction k with
    | zero =>
      intro hk
      obtain ⟨p, hp⟩ : ∃ p, d[0]? = some p := ⟨_, List.getElem?_eq_getElem hk⟩
      rw [take_snoc hp]
      exact ⟨[p], ch_start H p⟩
    | succ k ih =>
      intro hk
      obtain ⟨s, hc⟩ := ih (by omega)
      obtain ⟨p, hp⟩ : ∃ p, d[k + 1]? = some p := ⟨_, List.getElem?_eq_getElem hk⟩
      have hsn : s ≠ [] := fun e => by
        have := hc.head
        rw [e] at this
        cases d with
        | nil => simp at hk
        | cons a t => simp at this
      have hsl : 0 < s.length := List.length_pos_iff.2 hsn
      have find : ∀ j, j < s.length → (∀ u v, s[j]? = some u → s[j + 1]? = some v → orR u v p ≤ 0) →
          ∃ j, j < s.length ∧ (∀ u v, s[j]? = some u → s[j + 1]? = some v → orR u v p ≤ 0) ∧ ∀ u v, 0 < j → s[j - 1]? = some u → s[j]? = some v → 0 < orR u v p := by
        intro j
        induction j with
        | zero => intro h1 h2; exact ⟨0, h1, h2, fun _ _ q => absurd q (by omega)⟩
        | succ j ihj =>
          intro h1 h2
          obtain ⟨u, hu⟩ : ∃ u, s[j]? = some u := ⟨_, List.getElem?_eq_getElem (by omega)⟩
          obtain ⟨v, hv⟩ : ∃ v, s[j + 1]? = some v := ⟨_, List.getElem?_eq_getElem h1⟩
          by_cases ho : orR u v p ≤ 0
          · refine ihj (by omega) fun a b ha hb => ?_
            rw [hu] at ha
            rw [hv] at hb
            injection ha with ha
            injection hb with hb
            subst ha hb
            exact ho
          · refine ⟨j + 1, h1, h2, fun a b _ ha hb => ?_⟩
            rw [show j + 1 - 1 = j from rfl, hu] at ha
            rw [hv] at hb
            injection ha with ha
            injection hb with hb
            subst ha hb
            omega
      obtain ⟨j, j1, j2, j3⟩ := find (s.length - 1) (by omega) fun u v _ hv => by rw [List.getElem?_eq_none (by omega)] at hv; cases hv
      rw [take_snoc hp]
      exact ⟨_, ch_push H hc (hd.sublist (List.take_sublist _ _)) (fun x hx => by
        obtain ⟨i, hi⟩ := List.mem_iff_getElem?.1 hx
        have hik := lt_of_get hi
        rw [List.length_take] at hik
        rw [List.getElem?_take, if_pos (by omega)] at hi
        exact asc_lt H hd (show i < k + 1 by omega) hi hp) j1 j2 j3⟩
  have hn : 0 < d.length := List.length_pos_iff.2 hne
  have := go (d.length - 1) (by omega)
  rw [show d.length - 1 + 1 = d.length from by omega, List.take_length] at this
  exact this
/-- every list of points has a hull -/
theorem hull_exists {l : List Point} (hne : l ≠ []) : ∃ h, IsHull orR ltQ l h := by
  obtain ⟨d, d2, d3⟩ := asc_exists l
  have dn : d ≠ [] := fun e => by
    obtain ⟨x, hx⟩ := List.exists_mem_of_ne_nil l hne
    have := (d3 x).2 hx
    rw [e] at this; simp at this
  by_cases h2 : 2 ≤ d.length
  · obtain ⟨low, l2⟩ := ch_exists planeP d2 dn
    obtain ⟨high, u2⟩ := ch_exists planeN (d := d.reverse) (by rw [List.pairwise_reverse]; exact d2) (by simpa using dn)
    exact ⟨_, (hull_chains planeP planeN d2 h2 l2 u2).of_mem d3⟩
  · match d, dn, h2 with
    | [m], _, _ => exact ⟨[m], (hull_one planeP m).of_mem d3⟩
    | x :: y :: t, _, h => simp at h
/-! ### differences -/
theorem times_big {a b : Root} (ha : rIn 16384 a = true) (hb : rIn 16384 b = true) : sheetmetalref01_times a b = some (mulR a b) ∧ (-1073741824 ≤ (mulR a b).A ∧ (mulR a b).A ≤ 1073741824) ∧ (-536870912 ≤ (mulR a b).B ∧ (mulR a b).B ≤ 536870912) := by
  refine ⟨(times_eq (by omega) ha hb).2.1, ?_⟩
  rw [rIn_iff] at ha hb
  have h1 := mul_le _ _ 16384 ha.1 hb.1
  have h2 := mul_le _ _ 16384 ha.2 hb.2
  have h3 := mul_le _ _ 16384 ha.1 hb.2
  have h4 := mul_le _ _ 16384 ha.2 hb.1
  have e : 3 * a.B * b.B = 3 * (a.B * b.B) := by grind
  unfold mulR
  simp only
  rw [e]
  omega
theorem minus_big {a b : Root} (ha : (-1073741824 ≤ a.A ∧ a.A ≤ 1073741824) ∧ (-536870912 ≤ a.B ∧ a.B ≤ 536870912)) (hb : (-1073741824 ≤ b.A ∧ b.A ≤ 1073741824) ∧ (-536870912 ≤ b.B ∧ b.B ≤ 536870912)) : sheetmetalref01_minus a b = some ⟨a.A - b.A, a.B - b.B⟩ := by
  unfold sheetmetalref01_minus
  rw [isub_eq (by omega) (by omega), isub_eq (by omega) (by omega)]
def bIn (p : Point) : Prop := rIn 8192 p.X = true ∧ rIn 8192 p.Y = true
theorem orient_big {a b c : Point} (ha : bIn a) (hb : bIn b) (hc : bIn c) : sheetmetalref01_orient a b c = some (orR a b c) := by
  obtain ⟨_, v1, w1⟩ := minus_eq (by omega) hb.1 ha.1
  obtain ⟨_, v2, w2⟩ := minus_eq (by omega) hc.2 ha.2
  obtain ⟨_, v3, w3⟩ := minus_eq (by omega) hb.2 ha.2
  obtain ⟨_, v4, w4⟩ := minus_eq (by omega) hc.1 ha.1
  obtain ⟨v5, w5⟩ := times_big w1 w2
  obtain ⟨v6, w6⟩ := times_big w3 w4
  have v7 := minus_big w5 w6
  unfold sheetmetalref01_orient orR det
  simp only [v1, v2, v3, v4, v5, v6, v7, Option.bind_some]
  rw [rsign_gen _ (by simp only; omega) (by simp only; omega)]
  rfl
theorem bIn_dP {a b : Point} (ha : pIn a = true) (hb : pIn b = true) : bIn (dP a b) := by
  rw [pIn_iff, rIn_iff, rIn_iff] at ha hb
  unfold bIn dP
  rw [rIn_iff, rIn_iff]
  simp only
  omega
theorem bIn_dL {x y : List Point} (hx : Pts x) (hy : Pts y) : ∀ d ∈ dL x y, bIn d := fun d hd => by
  obtain ⟨a, ha, b, hb, rfl⟩ := mem_dL.1 hd
  exact bIn_dP (hx a ha) (hy b hb)
theorem dL_len (x y : List Point) : (dL x y).length = x.length * y.length := by
  unfold dL
  induction x with
  | nil => simp
  | cons a x ih => rw [List.flatMap_cons, List.length_append, ih, List.length_map, List.length_cons, Nat.add_mul]; omega
theorem dL_snoc (x y : List Point) (a : Point) : dL (x ++ [a]) y = dL x y ++ y.map (dP a) := by
  unfold dL; rw [List.flatMap_append]; simp
theorem fit_dL {x y : List Point} (hx : Pts x) (hy : Pts y) (h : (dL x y).length ≤ 100000) : Fit (dL x y) :=
  ⟨fun a ha b hb c hc => orient_big (bIn_dL hx hy a ha) (bIn_dL hx hy b hb) (bIn_dL hx hy c hc), fun a ha b hb => rComparePoint_eq (m := 8192) (by omega) (bIn_dL hx hy a ha) (bIn_dL hx hy b hb), h⟩
theorem inner_ok {x y : List Point} (hx : Pts x) (hy : Pts y) (hyl : y.length ≤ 24) {i : Nat} {a : Point} (ha : x[i]? = some a) (out : List Point) (ho : out.length ≤ 1000) :
    loopT (sheetmetalref01_meets_l1 x y ((i : Int), out)) (0, out) = some (out ++ y.map (dP a)) := by
  obtain ⟨r, q1, q2⟩ := loop_rel y (fun k (s : List Point) => ((k : Int), s)) (sheetmetalref01_meets_l1 x y ((i : Int), out)) (fun s => s) (fun k s => s = out ++ (y.take k).map (dP a)) out (by simp)
    (fun k b s hb hI => by
      have h1 := lt_of_get hb
      have hd : decide ((k : Int) < (y.length : Int)) = true := by simp [h1]
      have pa := pIn_iff.1 (hx a (List.mem_of_getElem? ha))
      have pb := pIn_iff.1 (hy b (List.mem_of_getElem? hb))
      unfold sheetmetalref01_meets_l1
      simp only [hd, if_true, idx_of ha, idx_of hb, Option.bind_some, (minus_eq (m := 4096) (by omega) pa.1 pb.1).2.1, (minus_eq (m := 4096) (by omega) pa.2 pb.2).2.1, succ_cast k (by omega)]
      rw [app_eq (by subst hI; simp [LIM]; omega)]
      exact ⟨_, rfl, by rw [take_snoc hb, List.map_append, hI, List.append_assoc]; rfl⟩) (fun s _ => by simp [sheetmetalref01_meets_l1])
  rw [List.take_length] at q2
  rw [show ((0 : Int), out) = (((0 : Nat) : Int), out) from rfl, q1, q2]
theorem outer_ok {x y : List Point} (hx : Pts x) (hy : Pts y) (hxl : x.length ≤ 24) (hyl : y.length ≤ 24) : loopT (sheetmetalref01_meets_l2 x y) (0, []) = some (dL x y) := by
  obtain ⟨r, q1, q2⟩ := loop_rel x (fun k (s : List Point) => ((k : Int), s)) (sheetmetalref01_meets_l2 x y) (fun s => s) (fun k s => s = dL (x.take k) y) [] (by simp [dL])
    (fun k a s ha hI => by
      have h1 := lt_of_get ha
      have hd : decide ((k : Int) < (x.length : Int)) = true := by simp [h1]
      have hl : s.length ≤ 1000 := by
        rw [hI, dL_len, List.length_take]
        calc _ ≤ 24 * 24 := Nat.mul_le_mul (by omega) hyl
          _ ≤ 1000 := by omega
      unfold sheetmetalref01_meets_l2
      simp only [hd, if_true, inner_ok hx hy hyl ha s hl, Option.bind_some, succ_cast k (by omega)]
      exact ⟨_, rfl, by rw [take_snoc ha, dL_snoc, hI]⟩) (fun s _ => by simp [sheetmetalref01_meets_l2])
  rw [List.take_length] at q2
  rw [show ((0 : Int), ([] : List Point)) = (((0 : Nat) : Int), []) from rfl, q1, q2]
theorem corner_at {h : List Point} (hl : h.length ≤ 100000) {i : Nat} (hi : i < h.length) : ∃ u v, h[i]? = some u ∧ h[(i + 1) % h.length]? = some v ∧ Int.tmod (iadd (i : Int) 1) (h.length : Int) = (((i + 1) % h.length : Nat) : Int) := by
  refine ⟨_, _, List.getElem?_eq_getElem hi, List.getElem?_eq_getElem (Nat.mod_lt _ (by omega)), ?_⟩
  rw [iadd_eq (by omega) (by omega), Int.tmod_eq_emod_of_nonneg (by omega)]; rfl
theorem strict_ok {h : List Point} (hb : ∀ p ∈ h, bIn p) (hl : h.length ≤ 100000) : ∃ r, loopT (sheetmetalref01_meets_l3 h) 0 = some r ∧ ((r = .inr ()) ↔ Strict h) := by
  have z0 : bIn p0 := by unfold bIn; decide
  obtain ⟨r, r1, r2⟩ := loop_wf (fun s : Int => ((h.length : Int) - s).toNat) (fun s : Int => ∃ i : Nat, s = (i : Int) ∧ i ≤ h.length ∧ ∀ (j : Nat) u v, j < i → h[j]? = some u → h[(j + 1) % h.length]? = some v → 0 < orR u v p0)
    (fun r : Unit ⊕ Unit => (r = .inr ()) ↔ Strict h) (sheetmetalref01_meets_l3 h) (by
      rintro s ⟨i, rfl, hi, hall⟩
      unfold sheetmetalref01_meets_l3
      by_cases hil : i < h.length
      · obtain ⟨u, v, hu, hv, t⟩ := corner_at hl hil
        have hd : (i : Int) < (h.length : Int) := by omega
        have hnz : ((h.length : Int) != 0) = true := by rw [bne_iff_ne]; omega
        have ho := orient_big (hb u (List.mem_of_getElem? hu)) (hb v (List.mem_of_getElem? hv)) z0
        simp only [hd, decide_true, if_true, hnz, t, idx_of hu, idx_of hv, Option.bind_some]
        rw [show (Point.mk (Root.mk 0 0) (Root.mk 0 0)) = p0 from rfl, ho, Option.bind_some]
        by_cases q : orR u v p0 ≤ 0
        · right
          refine ⟨.inl (), by simp only [q, decide_true, if_true], ?_⟩
          constructor
          · intro e; cases e
          · intro e; have := e i u v hu hv; omega
        · left
          refine ⟨((i + 1 : Nat) : Int), by simp only [q, decide_false, Bool.false_eq_true, if_false, succ_cast i (show (i : Int) < 9223372036854775807 by omega)], ⟨i + 1, rfl, by omega, fun j a b hj ha hb' => ?_⟩, by omega⟩
          by_cases e : j = i
          · subst e
            rw [hu] at ha
            rw [hv] at hb'
            injection ha with ha
            injection hb' with hb'
            subst ha hb'
            omega
          · exact hall j a b (by omega) ha hb'
      · right
        have hd : ¬ (i : Int) < (h.length : Int) := by omega
        refine ⟨.inr (), by simp only [hd, decide_false, Bool.false_eq_true, if_false], ?_⟩
        constructor
        · intro _ j u v hu hv
          exact hall j u v (by have := lt_of_get hu; omega) hu hv
        · intro _; rfl) 0 ⟨0, rfl, by omega, fun j _ _ hj => absurd hj (by omega)⟩
  exact ⟨r, r1, r2⟩
/-- the document: do two hulls meet? -/
theorem rmeets_ok {a b x y : List Point} (ha : Pts a) (hb : Pts b) (hal : a.length ≤ 24) (hbl : b.length ≤ 24) (hx : IsHull orR ltQ a x) (hy : IsHull orR ltQ b y) :
    ∃ r, sheetmetalref01_meets a b = some r ∧ (r = true ↔ ¬ Sep a b) := by
  have px : Pts x := fun p hp => ha p (hx.sub p hp)
  have py : Pts y := fun p hp => hb p (hy.sub p hp)
  have lx := hull_len hx
  have ly := hull_len hy
  have nx : x ≠ [] := fun e => by obtain ⟨m, m1, _⟩ := hx.min; rw [e] at m1; simp at m1
  have ny : y ≠ [] := fun e => by obtain ⟨m, m1, _⟩ := hy.min; rw [e] at m1; simp at m1
  have hd : (dL x y).length ≤ 1000 := by
    rw [dL_len]
    calc _ ≤ 24 * 24 := Nat.mul_le_mul (by omega) (by omega)
      _ ≤ 1000 := by omega
  have dn : dL x y ≠ [] := fun e => by
    have := congrArg List.length e
    rw [dL_len] at this
    have h1 := List.length_pos_iff.2 nx
    have h2 := List.length_pos_iff.2 ny
    have := Nat.mul_pos h1 h2
    simp at *; omega
  obtain ⟨h, hh⟩ := hull_exists dn
  obtain ⟨r, r1, r2⟩ := strict_ok (h := h) (fun p hp => bIn_dL px py p (hh.sub p hp)) (by have := hull_len hh; omega)
  unfold sheetmetalref01_meets
  simp only [wrap_ok (fit_pts ha (by omega)) hx, wrap_ok (fit_pts hb (by omega)) hy, outer_ok px py (by omega) (by omega), wrap_ok (fit_dL px py (by omega)) hh, r1, Option.bind_some]
  have key : Strict h ↔ ¬ Sep a b := by
    rw [← sep_points hx hy, ← sep_dL]
    constructor
    · exact strict_sep hh
    · intro q
      apply Classical.byContradiction
      exact fun s => q (sep_strict hh s)
  rw [← key, ← r2]
  rcases r with r | r
  · exact ⟨false, rfl, by simp⟩
  · exact ⟨true, rfl, by simp⟩
end Go.SM
