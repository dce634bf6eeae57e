/- The document's hull. -/
import Derived.Test.YtiodkdpfkchkjaaHullModel
set_option linter.unusedVariables false
set_option linter.unusedSimpArgs false
set_option linter.unusedSectionVars false
namespace Go.SM
open Go Go.VI Go.Geo R3
theorem rComparePoint_eq {a b : Point} {m : Int} (hm : m ≤ 100000000) (ha : rIn m a.X = true ∧ rIn m a.Y = true) (hb : rIn m b.X = true ∧ rIn m b.Y = true) : sheetmetalref01_ComparePoint a b = some (cmpP a b) := by
  obtain ⟨_, u1, w1⟩ := minus_eq (by omega) ha.1 hb.1
  obtain ⟨_, u2, w2⟩ := minus_eq (by omega) ha.2 hb.2
  unfold sheetmetalref01_ComparePoint cmpP
  simp only [u1, u2, Option.bind_some, rsign_eq _ (rIn_mono (n := 1000000000) (by omega) w1), rsign_eq _ (rIn_mono (n := 1000000000) (by omega) w2), rt_minus]
  by_cases h : sg (rt a.X - rt b.X) = 0
  · simp [h]
  · simp [h]
theorem cmpP_le {a b : Point} : cmpP a b ≤ 0 ↔ (b = a ∨ ltQ a b) := by
  rw [← cmpP_lt]
  constructor
  · intro h
    rcases Int.lt_or_le (cmpP a b) 0 with q | q
    · exact .inr q
    · exact .inl (cmpP_zero.1 (by omega)).symm
  · rintro (h | h)
    · have := (cmpP_zero (a := a) (b := b)).2 h.symm; omega
    · omega
theorem cmpP_ge {a b : Point} : cmpP a b ≥ 0 ↔ (b = a ∨ ltQ b a) := by
  have := cmpP_neg b a
  have h := cmpP_le (a := b) (b := a)
  constructor
  · intro q
    rcases h.1 (by omega) with r | r
    · exact .inl r.symm
    · exact .inr r
  · intro q
    have := h.2 (q.elim (fun e => .inl e.symm) .inr)
    omega
/-- points that can be reckoned with -/
structure Fit (l : List Point) : Prop where
  o : ∀ a ∈ l, ∀ b ∈ l, ∀ c ∈ l, sheetmetalref01_orient a b c = some (orR a b c)
  c : ∀ a ∈ l, ∀ b ∈ l, sheetmetalref01_ComparePoint a b = some (cmpP a b)
  len : l.length ≤ 100000
theorem fit_pts {l : List Point} (h : Pts l) (hl : l.length ≤ 100000) : Fit l :=
  ⟨fun a ha b hb c hc => (orient_eq a b c (h a ha) (h b hb) (h c hc)).2, fun a ha b hb => rComparePoint_eq (m := 4096) (by omega) (pIn_iff.1 (h a ha)) (pIn_iff.1 (h b hb)), hl⟩
theorem between_ok {l : List Point} (hf : Fit l) {p q r : Point} (hp : p ∈ l) (hq : q ∈ l) (hr : r ∈ l) : ∃ b, sheetmetalref01_between p q r = some b ∧ (b = true ↔ Btw ltQ p q r) := by
  unfold sheetmetalref01_between
  have er : (Point.mk (Root.mk r.X.A r.X.B) (Root.mk r.Y.A r.Y.B)) = r := rfl
  simp only [er, hf.c p hp q hq, hf.c q hq r hr, Option.bind_some]
  have h1 := cmpP_le (a := p) (b := q)
  have h2 := cmpP_le (a := q) (b := r)
  have h3 := cmpP_ge (a := p) (b := q)
  have h4 := cmpP_ge (a := q) (b := r)
  refine ⟨decide ((cmpP p q ≤ 0 ∧ cmpP q r ≤ 0) ∨ (cmpP p q ≥ 0 ∧ cmpP q r ≥ 0)), ?_, ?_⟩
  · by_cases c1 : cmpP p q ≤ 0 <;> by_cases c2 : cmpP q r ≤ 0 <;> by_cases c3 : cmpP p q ≥ 0 <;> by_cases c4 : cmpP q r ≥ 0 <;> simp [c1, c2, c3, c4]
  · rw [decide_eq_true_eq, h1, h2, h3, h4]
    unfold Btw
    constructor
    · rintro (⟨a, b⟩ | ⟨a, b⟩)
      · exact .inl ⟨a, b.elim (fun e => .inl e.symm) .inr⟩
      · exact .inr ⟨a, b.elim (fun e => .inl e.symm) .inr⟩
    · rintro (⟨a, b⟩ | ⟨a, b⟩)
      · exact .inl ⟨a, b.elim (fun e => .inl e.symm) .inr⟩
      · exact .inr ⟨a, b.elim (fun e => .inl e.symm) .inr⟩
section
variable {l : List Point} (hf : Fit l)
include hf
/-- the least point -/
theorem first_ok (hne : l ≠ []) : ∃ (f : Nat) (m : Point), loopT (sheetmetalref01_Wrap_l2 l) (0, 1) = some (f : Int) ∧ l[f]? = some m ∧ ∀ x ∈ l, ¬ ltQ x m := by
  have hl := hf.len
  have hn := List.length_pos_iff.2 hne
  obtain ⟨r, r1, f, m, r2, r3, r4⟩ := loop_wf (fun s : Int × Int => ((l.length : Int) - s.2).toNat) (fun s : Int × Int => ∃ (f i : Nat) (m : Point), s.1 = f ∧ s.2 = i ∧ 1 ≤ i ∧ i ≤ l.length ∧ l[f]? = some m ∧ ∀ j x, j < i → l[j]? = some x → ¬ ltQ x m)
    (fun r : Int => ∃ (f : Nat) (m : Point), r = f ∧ l[f]? = some m ∧ ∀ x ∈ l, ¬ ltQ x m) (sheetmetalref01_Wrap_l2 l) (by
      rintro ⟨f', i'⟩ ⟨f, i, m, hf', hi', i1, i2, hm, hall⟩
      simp only at hf' hi' ⊢
      subst hf' hi'
      unfold sheetmetalref01_Wrap_l2
      by_cases hi : i < l.length
      · left
        obtain ⟨x, hx⟩ : ∃ x, l[i]? = some x := ⟨_, List.getElem?_eq_getElem hi⟩
        have hd : (i : Int) < (l.length : Int) := by omega
        simp only [hd, decide_true, if_true, idx_of hx, idx_of hm, Option.bind_some, hf.c x (List.mem_of_getElem? hx) m (List.mem_of_getElem? hm), sheetmetalref01_Wrap_k1, succ_cast i (by omega)]
        by_cases hc : cmpP x m < 0
        · simp only [hc, decide_true, if_true]
          refine ⟨_, rfl, ⟨i, i + 1, x, rfl, rfl, by omega, by omega, hx, fun j y hj hy q => ?_⟩, by simp only; omega⟩
          by_cases e : j = i
          · subst e; rw [hx] at hy; injection hy with hy; subst hy; exact ltQ_irr _ q
          · exact hall j y (by omega) hy (ltQ_trans q (cmpP_lt.1 hc))
        · simp only [hc, decide_false, Bool.false_eq_true, if_false]
          refine ⟨_, rfl, ⟨f, i + 1, m, rfl, rfl, by omega, by omega, hm, fun j y hj hy q => ?_⟩, by simp only; omega⟩
          by_cases e : j = i
          · subst e; rw [hx] at hy; injection hy with hy; subst hy; exact hc (cmpP_lt.2 q)
          · exact hall j y (by omega) hy q
      · right
        have hd : ¬ (i : Int) < (l.length : Int) := by omega
        refine ⟨_, by simp only [hd, decide_false, Bool.false_eq_true, if_false], f, m, rfl, hm, fun x hx => ?_⟩
        obtain ⟨j, hj⟩ := List.mem_iff_getElem?.1 hx
        exact hall j x (by have := lt_of_get hj; omega) hj) (0, 1) ⟨0, 1, l[0], rfl, rfl, by omega, by omega, List.getElem?_eq_getElem hn, fun j x hj hx q => by
          obtain rfl : j = 0 := by omega
          rw [List.getElem?_eq_getElem hn] at hx
          injection hx with hx
          subst hx
          exact ltQ_irr _ q⟩
  exact ⟨f, m, by rw [r1, r2], r3, r4⟩
/-- one step of the search for the next corner -/
theorem step_ok {at_ nx i : Nat} {a t r : Point} (ha : l[at_]? = some a) (ht : l[nx]? = some t) (hr : l[i]? = some r) (n : Int) (out : List Point) :
    ∃ b : Bool, sheetmetalref01_Wrap_l5 l ((at_ : Int), n, out) ((nx : Int), (i : Int)) = some (.inl (if b then (i : Int) else (nx : Int), ((i + 1 : Nat) : Int))) ∧
      (nx = at_ → (b = true ↔ r ≠ a)) ∧ (nx ≠ at_ → (b = true ↔ (orR a t r < 0 ∨ (orR a t r = 0 ∧ Btw ltQ a t r ∧ r ≠ t ∧ r ≠ a)))) := by
  have hl := hf.len
  have hi := lt_of_get hr
  have ma := List.mem_of_getElem? ha
  have mt := List.mem_of_getElem? ht
  have mr := List.mem_of_getElem? hr
  have hd : (i : Int) < (l.length : Int) := by omega
  obtain ⟨bt, bt1, bt2⟩ := between_ok hf ma mt mr
  have z : ∀ {x y : Point}, (cmpP x y != 0) = decide (x ≠ y) := fun {x y} => by
    by_cases h : x = y
    · have := (cmpP_zero (a := x) (b := y)).2 h; rw [this]; simp [h]
    · have : cmpP x y ≠ 0 := fun q => h (cmpP_zero.1 q)
      simp [this, h]
  unfold sheetmetalref01_Wrap_l5
  simp only [hd, decide_true, if_true]
  by_cases e : nx = at_
  · subst e
    have e1 : (((nx : Nat) : Int) != ((nx : Nat) : Int)) = false := by simp
    have e2 : (((nx : Nat) : Int) == ((nx : Nat) : Int)) = true := by simp
    unfold sheetmetalref01_Wrap_k4
    simp only [e1, e2, Bool.false_eq_true, if_false, if_true, idx_of hr, idx_of ha, Option.bind_some, hf.c r mr a ma, z, sheetmetalref01_Wrap_k3, succ_cast i (by omega), beq_self_eq_true]
    by_cases h : r = a
    · refine ⟨false, ?_, fun _ => by simp [h], fun q => absurd rfl q⟩
      simp [h]
    · refine ⟨true, ?_, fun _ => by simp [h], fun q => absurd rfl q⟩
      simp [h]
  · have e1 : (((nx : Nat) : Int) != ((at_ : Nat) : Int)) = true := by simp; omega
    have e2 : (((nx : Nat) : Int) == ((at_ : Nat) : Int)) = false := by simp; omega
    unfold sheetmetalref01_Wrap_k4
    simp only [e1, e2, Bool.false_eq_true, if_false, if_true, idx_of hr, idx_of ha, idx_of ht, Option.bind_some, hf.o a ma t mt r mr, hf.c r mr a ma, hf.c r mr t mt, z, sheetmetalref01_Wrap_k3, succ_cast i (by omega), bt1]
    by_cases h1 : orR a t r < 0
    · refine ⟨true, ?_, fun q => absurd q e, fun _ => by simp [h1]⟩
      have h0 : (orR a t r == 0) = false := by simp; omega
      simp [h0, h1]
    · by_cases h0 : orR a t r = 0
      · have h0' : (orR a t r == 0) = true := by simp [h0]
        have h2 : ¬ (0 : Int) < 0 := by omega
        refine ⟨bt && decide (r ≠ t) && decide (r ≠ a), ?_, fun q => absurd q e, fun _ => by simp [h0, ← bt2, and_assoc]⟩
        simp only [h0', if_true, h1, decide_false, Bool.false_eq_true, if_false]
        cases bt with
        | false => rfl
        | true =>
          by_cases c1 : r = t
          · simp [c1]
          · by_cases c2 : r = a
            · simp [c1, c2]
            · simp [c1, c2]
      · refine ⟨false, ?_, fun q => absurd q e, fun _ => by simp [h1, h0]⟩
        have h0' : (orR a t r == 0) = false := by simp [h0]
        simp [h0', h1]
/-- the search finds the next corner -/
theorem search_ok {at_ : Nat} {a q : Point} (ha : l[at_]? = some a) (hq : Nx orR ltQ l a q) (n : Int) (out : List Point) : ∃ nx : Nat, loopT (sheetmetalref01_Wrap_l5 l ((at_ : Int), n, out)) ((at_ : Int), 0) = some (nx : Int) ∧ l[nx]? = some q := by
  have hl := hf.len
  obtain ⟨q1, q2, q3⟩ := hq
  obtain ⟨r, r1, nx, r2, r3⟩ := loop_wf (fun s : Int × Int => ((l.length : Int) - s.2).toNat)
    (fun s : Int × Int => ∃ (nx i : Nat) (t : Point), s.1 = nx ∧ s.2 = i ∧ i ≤ l.length ∧ l[nx]? = some t ∧ (nx = at_ ∨ t ≠ a) ∧ ((∃ j, j < i ∧ l[j]? = some q) → t = q))
    (fun r : Int => ∃ nx : Nat, r = nx ∧ l[nx]? = some q) (sheetmetalref01_Wrap_l5 l ((at_ : Int), n, out)) (by
      rintro ⟨nx', i'⟩ ⟨nx, i, t, e1, e2, i1, ht, hta, hseen⟩
      simp only at e1 e2 ⊢
      subst e1 e2
      by_cases hi : i < l.length
      · left
        obtain ⟨x, hx⟩ : ∃ x, l[i]? = some x := ⟨_, List.getElem?_eq_getElem hi⟩
        obtain ⟨b, b1, b2, b3⟩ := step_ok hf ha ht hx n out
        have mx := List.mem_of_getElem? hx
        have mt := List.mem_of_getElem? ht
        have hat : nx = at_ → t = a := fun e => by subst e; rw [ha] at ht; injection ht with ht; exact ht.symm
        cases hb : b with
        | true =>
          rw [hb] at b1
          refine ⟨((i : Int), ((i + 1 : Nat) : Int)), b1, ⟨i, i + 1, x, rfl, rfl, by omega, hx, .inr ?_, ?_⟩, by simp only; omega⟩
          · by_cases e : nx = at_
            · exact (b2 e).1 hb
            · rcases (b3 e).1 hb with w | ⟨_, _, _, w⟩
              · intro e'; subst e'
                have := planeP.self3 x t
                omega
              · exact w
          · rintro ⟨j, hj, hjq⟩
            by_cases ej : j = i
            · subst ej; rw [hx] at hjq; injection hjq
            · -- q was seen: then it stays
              have htq := hseen ⟨j, by omega, hjq⟩
              subst htq
              by_cases e : nx = at_
              · exact absurd (hat e) q1
              · exfalso
                have w := (b3 e).1 hb
                rcases q3 x mx with s | ⟨s1, s2⟩
                · rcases w with w | ⟨w, _⟩ <;> omega
                · rcases w with w | ⟨_, w1, w2, w3⟩
                  · omega
                  · -- x between a and q, and q between a and x
                    have as : ∀ {x y}, ltQ x y → ltQ y x → False := fun {x y} u v => ltQ_irr x (ltQ_trans u v)
                    unfold Btw at s2 w1
                    rcases s2 with ⟨u1, u2⟩ | ⟨u1, u2⟩ <;> rcases w1 with ⟨v1, v2⟩ | ⟨v1, v2⟩
                    · rcases u2 with u2 | u2
                      · exact w2 u2
                      · rcases v2 with v2 | v2
                        · exact w2 v2.symm
                        · exact as u2 v2
                    · rcases u1 with u1 | u1
                      · exact w3 u1
                      · rcases v1 with v1 | v1
                        · exact q1 v1
                        · rcases u2 with u2 | u2
                          · exact w2 u2
                          · exact as (ltQ_trans u1 u2) v1
                    · rcases u1 with u1 | u1
                      · exact w3 u1
                      · rcases v1 with v1 | v1
                        · exact q1 v1
                        · rcases u2 with u2 | u2
                          · exact w2 u2
                          · exact as (ltQ_trans u2 u1) v1
                    · rcases u2 with u2 | u2
                      · exact w2 u2
                      · rcases v2 with v2 | v2
                        · exact w2 v2.symm
                        · exact as u2 v2
        | false =>
          rw [hb] at b1
          refine ⟨((nx : Int), ((i + 1 : Nat) : Int)), b1, ⟨nx, i + 1, t, rfl, rfl, by omega, ht, hta, ?_⟩, by simp only; omega⟩
          rintro ⟨j, hj, hjq⟩
          by_cases ej : j = i
          · subst ej
            rw [hx] at hjq
            injection hjq with hjq
            subst hjq
            -- q itself: t must be q already
            rcases Classical.em (t = x) with e' | e'
            · exact e'
            · exfalso
              have nb : ¬ b = true := by rw [hb]; simp
              by_cases e : nx = at_
              · exact nb ((b2 e).2 q1)
              · refine nb ((b3 e).2 ?_)
                have hs : orR a t x = -orR a x t := by
                  have e1 := planeP.swap t a x
                  have e2 := planeP.rot a t x
                  have e3 := planeP.rot a x t
                  have e4 := planeP.rot x t a
                  have e5 := planeP.swap a t x
                  have e6 := planeP.rot t a x
                  omega
                rcases q3 t mt with s | ⟨s1, s2⟩
                · left; omega
                · right; exact ⟨by omega, s2, fun e'' => e' e''.symm, q1⟩
          · exact hseen ⟨j, by omega, hjq⟩
      · right
        have hd : ¬ (i : Int) < (l.length : Int) := by omega
        refine ⟨(nx : Int), by unfold sheetmetalref01_Wrap_l5; simp only [hd, decide_false, Bool.false_eq_true, if_false], nx, rfl, ?_⟩
        obtain ⟨j, hj⟩ := List.mem_iff_getElem?.1 q2
        rw [← hseen ⟨j, by have := lt_of_get hj; omega, hj⟩]; exact ht) ((at_ : Int), 0) ⟨at_, 0, a, rfl, rfl, by omega, ha, .inl rfl, fun ⟨j, hj, _⟩ => absurd hj (by omega)⟩
  exact ⟨nx, by rw [r1, r2], r3⟩
theorem wrap_ok {h : List Point} (hh : IsHull orR ltQ l h) : sheetmetalref01_Wrap l = some h := by
  have hl := hf.len
  obtain ⟨m, m1, m2⟩ := hh.min
  have hm := hh.sub m (List.mem_of_getElem? m1)
  have hne : l ≠ [] := List.ne_nil_of_mem hm
  have hlen : h.length ≤ l.length := by
    have len : ∀ {g l : List Point}, g.Nodup → (∀ x ∈ g, x ∈ l) → g.length ≤ l.length := fun {g} => by
      induction g with
      | nil => intro l _ _; simp
      | cons x g ih =>
        intro l hn h
        rw [List.nodup_cons] at hn
        obtain ⟨s, t, e⟩ := List.append_of_mem (h x List.mem_cons_self)
        subst e
        have := ih (l := s ++ t) hn.2 fun y hy => by
          have := h y (List.mem_cons_of_mem _ hy)
          simp only [List.mem_append, List.mem_cons] at this ⊢
          rcases this with q | q | q
          · exact .inl q
          · exact absurd (q ▸ hy) hn.1
          · exact .inr q
        simp at this ⊢; omega
    exact len hh.nodup hh.sub
  obtain ⟨f, m', f1, f2, f3⟩ := first_ok hf hne
  have em : m' = m := by
    rcases m2 m' (List.mem_of_getElem? f2) with q | q
    · exact q
    · exact absurd q (f3 m hm)
  subst em
  have h0 := (List.getElem?_eq_some_iff.1 m1).1
  have z : ∀ {x y : Point}, (cmpP x y == 0) = decide (x = y) := fun {x y} => by
    by_cases h : x = y
    · have := (cmpP_zero (a := x) (b := y)).2 h; rw [this]; simp [h]
    · have : cmpP x y ≠ 0 := fun q => h (cmpP_zero.1 q)
      simp [this, h]
  obtain ⟨r, r1, r2⟩ := loop_wf (fun s : Int × Int × List Point => ((l.length : Int) - s.2.1).toNat)
    (fun s : Int × Int × List Point => ∃ (at_ n : Nat) (a : Point), s.1 = at_ ∧ s.2.1 = n ∧ n < h.length ∧ l[at_]? = some a ∧ h[n]? = some a ∧ s.2.2 = h.take (n + 1))
    (fun r : List Point ⊕ List Point => r = .inl h ∨ r = .inr h) (sheetmetalref01_Wrap_l6 l (f : Int)) (by
      rintro ⟨at', n', out⟩ ⟨at_, n, a, e1, e2, hn, ha, hna, hout⟩
      simp only at e1 e2 hout ⊢
      subst e1 e2
      unfold sheetmetalref01_Wrap_l6
      have hd : (n : Int) < (l.length : Int) := by omega
      simp only [hd, decide_true, if_true]
      by_cases hone : h.length = 1
      · right
        obtain rfl : n = 0 := by omega
        -- all points are the same: the search stays
        have stay : loopT (sheetmetalref01_Wrap_l5 l ((at_ : Int), ((0 : Nat) : Int), out)) ((at_ : Int), 0) = some (at_ : Int) := by
          obtain ⟨r, s1, s2⟩ := loop_wf (fun s : Int × Int => ((l.length : Int) - s.2).toNat) (fun s : Int × Int => ∃ i : Nat, s = ((at_ : Int), (i : Int)) ∧ i ≤ l.length) (fun r : Int => r = (at_ : Int)) (sheetmetalref01_Wrap_l5 l ((at_ : Int), ((0 : Nat) : Int), out)) (by
            rintro s ⟨i, rfl, hi⟩
            by_cases hil : i < l.length
            · left
              obtain ⟨x, hx⟩ : ∃ x, l[i]? = some x := ⟨_, List.getElem?_eq_getElem hil⟩
              obtain ⟨b, b1, b2, _⟩ := step_ok hf ha ha hx ((0 : Nat) : Int) out
              have hxa : x = a := by
                have w1 := hh.one hone x (List.mem_of_getElem? hx)
                obtain ⟨y, hy⟩ := List.length_eq_one_iff.1 hone
                rw [hy] at w1 hna
                simp at w1 hna
                rw [w1, hna]
              have hb : b = false := by
                cases hb : b with
                | false => rfl
                | true => exact absurd hxa ((b2 rfl).1 hb)
              rw [hb] at b1
              exact ⟨_, b1, ⟨i + 1, rfl, by omega⟩, by simp only; omega⟩
            · right
              have hd : ¬ (i : Int) < (l.length : Int) := by omega
              exact ⟨(at_ : Int), by unfold sheetmetalref01_Wrap_l5; simp only [hd, decide_false, Bool.false_eq_true, if_false], rfl⟩) ((at_ : Int), 0) ⟨0, rfl, by omega⟩
          rw [s1, s2]
        have eb : ((at_ : Int) == (at_ : Int)) = true := by simp
        refine ⟨.inl out, by simp only [stay, Option.bind_some, eb, if_true], .inl ?_⟩
        rw [hout, List.take_of_length_le (by omega)]
      · obtain ⟨q, hq⟩ : ∃ q, h[(n + 1) % h.length]? = some q := ⟨_, List.getElem?_eq_getElem (Nat.mod_lt _ (by omega))⟩
        have nx := hh.next hone n a q hna hq
        obtain ⟨j, j1, j2⟩ := search_ok hf ha nx (n : Int) out
        have hja : ((j : Int) == (at_ : Int)) = false := by
          rw [beq_eq_false_iff_ne]
          intro e
          have : j = at_ := by omega
          subst this
          rw [ha] at j2
          injection j2 with j2
          exact nx.1 j2.symm
        simp only [j1, Option.bind_some, hja, Bool.false_eq_true, if_false, idx_of j2, idx_of f2, hf.c q nx.2.1 m' hm, z]
        by_cases hend : n + 1 = h.length
        · right
          have hqm : q = m' := by
            rw [hend, Nat.mod_self, m1] at hq
            injection hq with hq; exact hq.symm
          refine ⟨.inl out, by simp only [hqm, decide_true, if_true], .inl ?_⟩
          rw [hout, List.take_of_length_le (by omega)]
        · left
          rw [Nat.mod_eq_of_lt (by omega)] at hq
          have hqm : q ≠ m' := fun e => by
            subst e
            have := get_ne hh.nodup hq m1
            omega
          simp only [hqm, decide_false, Bool.false_eq_true, if_false]
          rw [app_eq (by rw [hout]; simp [LIM]; omega)]
          refine ⟨_, rfl, ⟨j, n + 1, q, rfl, by simp only; rw [succ_cast n (by omega)], by omega, j2, hq, ?_⟩, by simp only; rw [succ_cast n (by omega)]; omega⟩
          simp only
          rw [take_snoc hq, hout]) ((f : Int), 0, [m']) ⟨f, 0, m', rfl, rfl, h0, f2, m1, by simp only; rw [take_snoc m1]; rfl⟩
  unfold sheetmetalref01_Wrap
  simp only [f1, Option.bind_some, idx_of f2, r1]
  rcases r2 with rfl | rfl <;> rfl
end
end Go.SM
