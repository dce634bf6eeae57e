/- The document's grids. -/
import Derived.Test.YtiodkdpfkchkjaaGeomGrid
set_option linter.unusedVariables false
set_option linter.unusedSimpArgs false
set_option linter.unusedSectionVars false
namespace Go.SM
open Go Go.VI Go.Cells
theorem insert_ok {l : List Int} (h : l.Pairwise fun x y => x < y) (hl : l.length ≤ 10000) (n : Int) :
    ∃ r, sheetmetalref01_insert l n = some r ∧ r.Pairwise (fun x y => x < y) ∧ (∀ x, x ∈ r ↔ x ∈ l ∨ x = n) ∧ r.length ≤ l.length + 1 := by
  obtain ⟨r, q1, q2⟩ := loop_wf (fun s : Bool × Int × List Int => ((l.length : Int) - s.2.1).toNat)
    (fun s : Bool × Int × List Int => ∃ k : Nat, s.2.1 = k ∧ k ≤ l.length ∧ ((s.1 = false ∧ s.2.2 = l.take k ∧ ∀ x ∈ l.take k, x < n) ∨ (s.1 = true ∧ ∃ p q, q ≠ [] ∧ l.take k = p ++ q ∧ s.2.2 = p ++ n :: q ∧ (∀ x ∈ p, x < n) ∧ ∀ x ∈ q, n < x)))
    (fun r : Unit ⊕ Bool × List Int => match r with | .inl _ => n ∈ l | .inr r => (r.1 = false ∧ r.2 = l ∧ ∀ x ∈ l, x < n) ∨ (r.1 = true ∧ ∃ p q, q ≠ [] ∧ l = p ++ q ∧ r.2 = p ++ n :: q ∧ (∀ x ∈ p, x < n) ∧ ∀ x ∈ q, n < x)) (sheetmetalref01_insert_l2 l n) (by
      rintro ⟨done, k', out⟩ ⟨k, hk', hk, hI⟩
      simp only at hk' hI ⊢
      subst hk'
      unfold sheetmetalref01_insert_l2
      by_cases hkl : k < l.length
      · have hd : decide ((k : Int) < (l.length : Int)) = true := by simp [hkl]
        have hx : l[k]? = some l[k] := List.getElem?_eq_getElem hkl
        obtain ⟨x, hxe⟩ : ∃ x, l[k] = x := ⟨_, rfl⟩
        rw [hxe] at hx
        simp only [hd, if_true, idx_of hx, Option.bind_some]
        by_cases hn : x = n
        · right
          exact ⟨.inl (), by simp [hn], hn ▸ List.mem_of_getElem? hx⟩
        · left
          have hb : (x == n) = false := by simp [hn]
          simp only [hb, Bool.false_eq_true, if_false]
          rcases hI with ⟨hdone, hout, hall⟩ | ⟨hdone, p, q, hqn, hpq, hout, hp, hq⟩
          · by_cases hgt : x > n
            · simp only [hdone, Bool.false_eq_true, if_false, hgt, decide_true, Option.bind_some, if_true]
              rw [app_eq (by subst hout; simp [LIM]; omega)]
              simp only [Option.bind_some, sheetmetalref01_insert_k1, idx_of hx]
              rw [app_eq (by subst hout; simp [LIM]; omega)]
              refine ⟨_, rfl, ⟨k + 1, by simp only; rw [succ_cast k (by omega)], by omega, .inr ⟨rfl, l.take k, [x], by simp, take_snoc hx, by simp only [hout]; simp, hall, fun y hy => by simp at hy; omega⟩⟩, by simp only; rw [succ_cast k (by omega)]; omega⟩
            · simp only [hdone, Bool.false_eq_true, if_false, hgt, decide_false, Option.bind_some, sheetmetalref01_insert_k1, idx_of hx]
              rw [app_eq (by subst hout; simp [LIM]; omega)]
              refine ⟨_, rfl, ⟨k + 1, by simp only; rw [succ_cast k (by omega)], by omega, .inl ⟨rfl, by simp only [hout]; rw [take_snoc hx], fun y hy => ?_⟩⟩, by simp only; rw [succ_cast k (by omega)]; omega⟩
              rw [take_snoc hx, List.mem_append, List.mem_singleton] at hy
              rcases hy with hy | rfl
              · exact hall y hy
              · omega
          · have hpl : p.length + q.length ≤ l.length := by have := congrArg List.length hpq; simp at this; omega
            simp only [hdone, if_true, Option.bind_some, Bool.false_eq_true, if_false, sheetmetalref01_insert_k1, idx_of hx]
            rw [app_eq (by subst hout; simp [LIM]; omega)]
            refine ⟨_, rfl, ⟨k + 1, by simp only; rw [succ_cast k (by omega)], by omega, .inr ⟨rfl, p, q ++ [x], by simp, by rw [take_snoc hx, hpq]; simp, by simp only [hout]; simp, hp, fun y hy => ?_⟩⟩, by simp only; rw [succ_cast k (by omega)]; omega⟩
            rcases List.mem_append.1 hy with hy | hy
            · exact hq y hy
            · simp at hy
              subst hy
              have hpw : (l.take (k + 1)).Pairwise fun x y => x < y := h.sublist (List.take_sublist _ _)
              rw [take_snoc hx, hpq, List.pairwise_append] at hpw
              obtain ⟨z, hz⟩ := List.exists_mem_of_ne_nil q hqn
              have := hpw.2.2 z (List.mem_append_right _ hz) y (by simp)
              have := hq z hz
              omega
      · right
        have hd : decide ((k : Int) < (l.length : Int)) = false := by simp; omega
        have hkl : k = l.length := by omega
        subst hkl
        simp only [List.take_length] at hI
        exact ⟨.inr (done, out), by simp only [hd, Bool.false_eq_true, if_false], hI⟩) (false, 0, []) ⟨0, rfl, by omega, .inl ⟨rfl, rfl, fun x hx => by simp at hx⟩⟩
  unfold sheetmetalref01_insert
  rw [q1, Option.bind_some]
  cases r with
  | inl _ => exact ⟨l, rfl, h, fun x => ⟨.inl, fun q => q.elim id fun e => e ▸ q2⟩, by omega⟩
  | inr r =>
    rcases q2 with ⟨e1, e2, hall⟩ | ⟨e1, p, q, hqn, hpq, hout, hp, hq⟩
    · simp only [e1, Bool.not_false, if_true, e2]
      rw [app_eq (by simp [LIM]; omega)]
      refine ⟨_, rfl, ?_, fun x => by rw [List.mem_append, List.mem_singleton], by simp⟩
      rw [List.pairwise_append]
      exact ⟨h, by simp, fun x hx y hy => by simp at hy; subst hy; exact hall x hx⟩
    · simp only [e1, Bool.not_true, Bool.false_eq_true, if_false, hout]
      refine ⟨_, rfl, ?_, fun x => by rw [hpq]; simp only [List.mem_append, List.mem_cons]; grind, by rw [hpq]; simp; omega⟩
      rw [hpq, List.pairwise_append] at h
      rw [List.pairwise_append, List.pairwise_cons]
      refine ⟨h.1, ⟨hq, h.2.1⟩, fun x hx y hy => ?_⟩
      rcases List.mem_cons.1 hy with rfl | hy
      · exact hp x hx
      · exact h.2.2 x hx y hy
theorem covers_ok {l : List Rect} (hv : AllV l) (hl : l.length ≤ 1000) (x y : Int) : sheetmetalref01_covers l x y = some (cov l x y) := by
  unfold sheetmetalref01_covers cov
  rw [loop_any l (sheetmetalref01_covers_l1 l x y) (fun r => inB r x y) (.inr ()) (.inl ()) (fun k r hr => ?s) ?f]
  · cases l.any (fun r => inB r x y) <;> rfl
  case s =>
    have h1 := lt_of_get hr
    obtain ⟨e1, e2⟩ := vR_add (hv r (List.mem_of_getElem? hr))
    unfold sheetmetalref01_covers_l1
    simp only [h1, Int.ofNat_lt, decide_true, if_true, idx_of hr, Option.bind_some, e1, e2]
    have hb' : (if decide (r.X ≤ x) then (if decide (x < r.X + r.W) then (if decide (r.Y ≤ y) then some (decide (y < r.Y + r.H)) else some false) else some false) else some false) = some (inB r x y) := by
      unfold inB
      cases decide (r.X ≤ x) <;> cases decide (x < r.X + r.W) <;> cases decide (r.Y ≤ y) <;> simp
    rw [hb', Option.bind_some, succ_cast k (by omega)]
  case f => simp [sheetmetalref01_covers_l1]
theorem makeGrid_ok {lines l : List Rect} (hv : AllV lines) (hl : lines.length ≤ 400) (hv' : AllV l) (hl' : l.length ≤ 400) :
    ∃ xs ys, sheetmetalref01_MakeGrid lines l = some (⟨xs, ys, mat xs ys (cov l)⟩, xs, ys) ∧ IsGrid xs (xsL lines) ∧ IsGrid ys (ysL lines) ∧ xs.length ≤ 2 * lines.length ∧ ys.length ≤ 2 * lines.length := by
  obtain ⟨⟨xs, ys⟩, q1, ⟨gx1, gx2⟩, ⟨gy1, gy2⟩, lx, ly⟩ := loop_rel lines (fun k (s : List Int × List Int) => ((k : Int), s.1, s.2)) (sheetmetalref01_MakeGrid_l1 lines) (fun s => (s.1, s.2)) (fun k s => IsGrid s.1 (xsL (lines.take k)) ∧ IsGrid s.2 (ysL (lines.take k)) ∧ s.1.length ≤ 2 * k ∧ s.2.length ≤ 2 * k) ([], [])
    ⟨⟨.nil, by simp [xsL]⟩, ⟨.nil, by simp [ysL]⟩, by simp, by simp⟩
    (fun k r s hr hI => by
      obtain ⟨⟨a1, a2⟩, ⟨b1, b2⟩, la, lb⟩ := hI
      have h1 := lt_of_get hr
      have hd : decide ((k : Int) < (lines.length : Int)) = true := by simp [h1]
      obtain ⟨e1, e2⟩ := vR_add (hv r (List.mem_of_getElem? hr))
      obtain ⟨c1, i1, p1, m1, n1⟩ := insert_ok a1 (by omega) r.X
      obtain ⟨c2, i2, p2, m2, n2⟩ := insert_ok p1 (by omega) (r.X + r.W)
      obtain ⟨c3, i3, p3, m3, n3⟩ := insert_ok b1 (by omega) r.Y
      obtain ⟨c4, i4, p4, m4, n4⟩ := insert_ok p3 (by omega) (r.Y + r.H)
      unfold sheetmetalref01_MakeGrid_l1
      simp only [hd, if_true, idx_of hr, Option.bind_some, e1, e2, i1, i2, i3, i4, succ_cast k (by omega)]
      refine ⟨(c2, c4), rfl, ⟨p2, fun x => ?_⟩, ⟨p4, fun x => ?_⟩, by simp only; omega, by simp only; omega⟩
      · rw [m2, m1, a2, take_snoc hr, xsL_append]
        simp [xsL, or_assoc]
      · rw [m4, m3, b2, take_snoc hr, ysL_append]
        simp [ysL, or_assoc]) (fun s _ => by simp [sheetmetalref01_MakeGrid_l1])
  rw [List.take_length] at gx2 gy2
  simp only at gx1 gx2 gy1 gy2 lx ly
  refine ⟨xs, ys, ?_, ⟨gx1, gx2⟩, ⟨gy1, gy2⟩, lx, ly⟩
  have col : ∀ (i : Nat) (x : Int) (b : List (List Bool)), xs[i]? = some x → loopT (sheetmetalref01_MakeGrid_l2 l (xs, ys) ((i : Int), b)) (0, []) = some (ys.dropLast.map fun y => cov l x y) := fun i x b hx => by
    obtain ⟨r, q1, q2⟩ := loop_rel ys.dropLast (fun k (s : List Bool) => ((k : Int), s)) (sheetmetalref01_MakeGrid_l2 l (xs, ys) ((i : Int), b)) (fun s => s) (fun k s => s = (ys.dropLast.take k).map fun y => cov l x y) [] (by simp)
      (fun k y s hy hI => by
        obtain ⟨gy, ky⟩ := dropLast_get hy
        have hd : decide (((k + 1 : Nat) : Int) < (ys.length : Int)) = true := by simp; omega
        subst hI
        unfold sheetmetalref01_MakeGrid_l2
        simp only [succ_cast k (by omega), hd, if_true, idx_of hx, idx_of gy, Option.bind_some, covers_ok hv' (show l.length ≤ 1000 by omega)]
        rw [app_eq (by simp [LIM]; omega)]
        refine ⟨_, rfl, ?_⟩
        rw [take_snoc hy, List.map_append]; rfl) (fun s _ => by
        have : ¬ iadd (ys.dropLast.length : Int) 1 < (ys.length : Int) := by
          rw [iadd_eq (by simp; omega) (by simp; omega)]; simp; omega
        unfold sheetmetalref01_MakeGrid_l2
        simp only [this, decide_false, Bool.false_eq_true, if_false])
    rw [List.take_length] at q2
    rw [show ((0 : Int), ([] : List Bool)) = (((0 : Nat) : Int), []) from rfl, q1, q2]
  obtain ⟨r, t1, t2⟩ := loop_rel xs.dropLast (fun k (s : List (List Bool)) => ((k : Int), s)) (sheetmetalref01_MakeGrid_l3 l (xs, ys)) (fun s => s) (fun k s => s = (xs.dropLast.take k).map fun x => ys.dropLast.map fun y => cov l x y) [] (by simp)
    (fun k x s hx hI => by
      obtain ⟨gx, kx⟩ := dropLast_get hx
      have hd : decide (((k + 1 : Nat) : Int) < (xs.length : Int)) = true := by simp; omega
      unfold sheetmetalref01_MakeGrid_l3
      simp only [succ_cast k (by omega), hd, if_true, col k x s gx, Option.bind_some]
      rw [app_eq (by subst hI; simp [LIM]; omega)]
      refine ⟨_, rfl, ?_⟩
      rw [take_snoc hx, List.map_append, hI]; rfl) (fun s _ => by
      have : ¬ iadd (xs.dropLast.length : Int) 1 < (xs.length : Int) := by
        rw [iadd_eq (by simp; omega) (by simp; omega)]; simp; omega
      unfold sheetmetalref01_MakeGrid_l3
      simp only [this, decide_false, Bool.false_eq_true, if_false])
  rw [List.take_length] at t2
  unfold sheetmetalref01_MakeGrid
  rw [show ((0 : Int), ([] : List Int), ([] : List Int)) = (((0 : Nat) : Int), (([], []) : List Int × List Int).1, (([], []) : List Int × List Int).2) from rfl, q1, Option.bind_some]
  simp only
  rw [show ((0 : Int), ([] : List (List Bool))) = (((0 : Nat) : Int), []) from rfl, t1, t2]
  rfl
end Go.SM
