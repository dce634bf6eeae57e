/- The law CutSmall, on the models. -/
import Derived.Test.YtgfjbgoehhnaeaaCaK
import Derived.Test.YtgfjbgoehhnaeaaCaRect
set_option linter.unusedVariables false
set_option linter.unusedSimpArgs false
set_option linter.unusedSectionVars false
namespace Go.SM
open Go Go.VI
theorem imin_eq (a b : Int) : imin a b = min a b := by unfold imin; split <;> omega
theorem imax_eq (a b : Int) : imax a b = max a b := by unfold imax; split <;> omega
def boxP (l : List Rect) : Int × Int × Int × Int := l.foldl (fun s r => if vR r then (if s.2.2.1 = 0 then (r.X, r.Y, r.W, r.H) else (min s.1 r.X, min s.2.1 r.Y, max (s.1 + s.2.2.1) (r.X + r.W) - min s.1 r.X, max (s.2.1 + s.2.2.2) (r.Y + r.H) - min s.2.1 r.Y)) else s) (0, 0, 0, 0)
def boxD (l : List Rect) : Bool × Int × Int × Int × Int := l.foldl (fun s r => if vR r then (if s.1 then (true, min s.2.1 r.X, min s.2.2.1 r.Y, max s.2.2.2.1 (r.X + r.W), max s.2.2.2.2 (r.Y + r.H)) else (true, r.X, r.Y, r.X + r.W, r.Y + r.H)) else s) (false, 0, 0, 0, 0)
/-- what both know of each other -/
def BoxI (p : Int × Int × Int × Int) (d : Bool × Int × Int × Int × Int) : Prop :=
  (d.1 = false ∧ p = (0, 0, 0, 0)) ∨ (d.1 = true ∧ p = (d.2.1, d.2.2.1, d.2.2.2.1 - d.2.1, d.2.2.2.2 - d.2.2.1) ∧ -1048576 ≤ d.2.1 ∧ d.2.1 < d.2.2.2.1 ∧ d.2.2.2.1 ≤ 1048576 ∧ -1048576 ≤ d.2.2.1 ∧ d.2.2.1 < d.2.2.2.2 ∧ d.2.2.2.2 ≤ 1048576)
theorem take_snoc' {α : Type} {l : List α} {k : Nat} {x : α} (h : l[k]? = some x) : l.take (k + 1) = l.take k ++ [x] := by
  rw [List.take_add_one, h]; rfl
def stP (s : Int × Int × Int × Int) (r : Rect) : Int × Int × Int × Int := if vR r then (if s.2.2.1 = 0 then (r.X, r.Y, r.W, r.H) else (min s.1 r.X, min s.2.1 r.Y, max (s.1 + s.2.2.1) (r.X + r.W) - min s.1 r.X, max (s.2.1 + s.2.2.2) (r.Y + r.H) - min s.2.1 r.Y)) else s
def stD (s : Bool × Int × Int × Int × Int) (r : Rect) : Bool × Int × Int × Int × Int := if vR r then (if s.1 then (true, min s.2.1 r.X, min s.2.2.1 r.Y, max s.2.2.2.1 (r.X + r.W), max s.2.2.2.2 (r.Y + r.H)) else (true, r.X, r.Y, r.X + r.W, r.Y + r.H)) else s
theorem boxStep {p : Int × Int × Int × Int} {d : Bool × Int × Int × Int × Int} (ih : BoxI p d) (r : Rect) : BoxI (stP p r) (stD d r) := by
  unfold stP stD
  by_cases hv : vR r
  · rw [if_pos hv, if_pos hv]
    unfold vR at hv
    rcases ih with ⟨h1, rfl⟩ | ⟨h1, rfl, hb⟩
    · rw [h1]
      refine .inr ⟨by simp, ?_, ?_⟩
      · simp
        omega
      · simp; omega
    · rw [h1]
      simp only [if_true]
      rw [if_neg (by omega)]
      refine .inr ⟨rfl, ?_, ?_⟩
      · simp only [Prod.mk.injEq, true_and]
        omega
      · simp only; omega
  · rw [if_neg hv, if_neg hv]; exact ih
theorem boxIs : ∀ (l : List Rect) {p : Int × Int × Int × Int} {d : Bool × Int × Int × Int × Int}, BoxI p d → BoxI (l.foldl stP p) (l.foldl stD d)
  | [], _, _, h => h
  | r :: l, _, _, h => boxIs l (boxStep h r)
theorem boxI (l : List Rect) : BoxI (boxP l) (boxD l) := boxIs l (.inl ⟨rfl, rfl⟩)
theorem boxP_take {l : List Rect} {k : Nat} {r : Rect} (h : l[k]? = some r) : boxP (l.take (k + 1)) = stP (boxP (l.take k)) r := by
  rw [take_snoc' h]; unfold boxP; rw [List.foldl_append]; rfl
theorem boxD_take {l : List Rect} {k : Nat} {r : Rect} (h : l[k]? = some r) : boxD (l.take (k + 1)) = stD (boxD (l.take k)) r := by
  rw [take_snoc' h]; unfold boxD; rw [List.foldl_append]; rfl
theorem Small_loop (x : Piece) (h : x.Rects.length ≤ 9223372036854775806) : loopT (cut_Small_l2 x) (0, 0, 0, 0, 0) = some (boxP x.Rects) := by
  refine loop_fold x.Rects (cut_Small_l2 x) (fun k => ((k : Int), boxP (x.Rects.take k))) _ (fun k r hr => ?_) ?_
  · have hk := (List.getElem?_eq_some_iff.1 hr).1
    have hb := boxI (x.Rects.take k)
    rw [boxP_take hr]
    unfold cut_Small_l2
    have h1 : decide ((k : Int) < (x.Rects.length : Int)) = true := by simp; omega
    generalize boxP (x.Rects.take k) = p at hb ⊢
    generalize boxD (x.Rects.take k) = d at hb
    simp only [h1, if_true, idx_of hr, Option.bind_some, ValidRect_eq, cut_Small_k1, stP]
    rw [iadd_eq (a := (k : Int)) (by omega) (by omega)]
    by_cases hv : vR r
    · have hv' := hv
      unfold vR at hv'
      simp only [hv, decide_true, Bool.not_true, Bool.false_eq_true, if_false, if_true]
      by_cases h0 : p.2.2.1 = 0
      · simp [h0]
      · rcases hb with ⟨_, rfl⟩ | ⟨_, rfl, hb⟩
        · exact absurd rfl h0
        · simp only at h0 ⊢
          have h0' : (d.2.2.2.1 - d.2.1 == 0) = false := by rw [beq_eq_false_iff_ne]; exact h0
          simp only [h0', h0, Bool.false_eq_true, if_false, imin_eq, imax_eq]
          rw [iadd_eq (a := d.2.1) (by omega) (by omega), iadd_eq (a := d.2.2.1) (by omega) (by omega), iadd_eq (a := r.X) (by omega) (by omega), iadd_eq (a := r.Y) (by omega) (by omega), isub_eq (by omega) (by omega), isub_eq (by omega) (by omega)]
          rfl
    · simp [hv]
  · simp [cut_Small_l2]
theorem Small_eq (x : Piece) (h : x.Rects.length ≤ 9223372036854775806) : cut_Small x = some (decide (min (boxP x.Rects).2.2.1 (boxP x.Rects).2.2.2 < 7200)) := by
  unfold cut_Small
  rw [Small_loop x h]
  simp [imin_eq]
theorem rSmall_loop (x : Piece) (h : x.Rects.length ≤ 9223372036854775806) : loopT (sheetmetalref07_Small_l3 x) (false, 0, 0, 0, 0, 0) = some (boxD x.Rects) := by
  refine loop_fold x.Rects (sheetmetalref07_Small_l3 x) (fun k => ((boxD (x.Rects.take k)).1, (boxD (x.Rects.take k)).2.1, (boxD (x.Rects.take k)).2.2.1, (boxD (x.Rects.take k)).2.2.2.1, (boxD (x.Rects.take k)).2.2.2.2, (k : Int))) _ (fun k r hr => ?_) ?_
  · have hk := (List.getElem?_eq_some_iff.1 hr).1
    rw [boxD_take hr]
    unfold sheetmetalref07_Small_l3
    have h1 : decide ((k : Int) < (x.Rects.length : Int)) = true := by simp; omega
    generalize boxD (x.Rects.take k) = d
    obtain ⟨d1, d2, d3, d4, d5⟩ := d
    simp only [h1, if_true, idx_of hr, Option.bind_some, Right_eq, sheetmetalref07_Small_k1, sheetmetalref07_Small_k2, stD]
    rw [iadd_eq (a := (k : Int)) (by omega) (by omega)]
    by_cases hv : vR r
    · have hv' := hv
      unfold vR at hv'
      simp only [hv, decide_true, Bool.not_true, Bool.false_eq_true, if_false, if_true, imin_eq, imax_eq]
      rw [iadd_eq (a := r.X) (by omega) (by omega), iadd_eq (a := r.Y) (by omega) (by omega)]
      cases d1 with
      | false =>
        simp
      | true => simp
    · simp [hv]
  · simp [sheetmetalref07_Small_l3]
theorem rSmall_eq (x : Piece) (h : x.Rects.length ≤ 9223372036854775806) : sheetmetalref07_Small x = some (decide (min (boxP x.Rects).2.2.1 (boxP x.Rects).2.2.2 < 7200)) := by
  unfold sheetmetalref07_Small
  rw [rSmall_loop x h]
  have hb := boxI x.Rects
  simp only [Option.bind_some]
  generalize boxP x.Rects = p at hb ⊢
  generalize boxD x.Rects = d at hb ⊢
  rcases hb with ⟨h1, rfl⟩ | ⟨h1, rfl, hb⟩
  · simp [h1]
  · simp only [h1, if_true, Option.bind_some, imin_eq]
    rw [isub_eq (by omega) (by omega), isub_eq (by omega) (by omega)]
/-! ### squares -/
def sqIn (l : List Rect) (x y : Int) : Bool := l.any fun r => decide (inRect ⟨x, y, 1, 1⟩ r)
theorem square_eq (l : List Rect) (x y : Int) (h : l.length ≤ 9223372036854775806) : sheetmetalref07_square l x y = some (sqIn l x y) := by
  unfold sheetmetalref07_square
  have hL : loopT (sheetmetalref07_square_l1 l x y) 0 = some (if l.any (fun r => decide (inRect ⟨x, y, 1, 1⟩ r)) then .inl () else .inr ()) := by
   refine loop_any l (sheetmetalref07_square_l1 l x y) (fun r => decide (inRect ⟨x, y, 1, 1⟩ r)) (.inr ()) (.inl ()) (fun k r hr => ?_) ?_
   · have hk := (List.getElem?_eq_some_iff.1 hr).1
     have h1 : decide ((k : Int) < (l.length : Int)) = true := by simp; omega
     unfold sheetmetalref07_square_l1
     simp only [h1, if_true, idx_of hr, Option.bind_some, Within_eq]
     rw [iadd_eq (by omega) (by omega)]
     rfl
   · simp [sheetmetalref07_square_l1]
  rw [hL]
  unfold sqIn
  cases l.any fun r => decide (inRect ⟨x, y, 1, 1⟩ r) <;> rfl
theorem contains_eq (l : List Rect) (x y : Int) (h : l.length ≤ 9223372036854775806) : slices_ContainsFunc_Lapi_Rect_api_Rect__cut_InRegion_1 l x y 1 1 = some (sqIn l x y) := by
  unfold slices_ContainsFunc_Lapi_Rect_api_Rect__cut_InRegion_1 slices_IndexFunc_Lapi_Rect_api_Rect__cut_InRegion_1
  have key : ∀ n k, k + n = l.length → ∃ r : Int ⊕ Unit, loopT (slices_IndexFunc_Lapi_Rect_api_Rect__cut_InRegion_1_l1 l x y 1 1) (k : Int) = some r ∧ (match r with | .inl j => 0 ≤ j ∧ sqIn (l.drop k) x y = true | .inr _ => sqIn (l.drop k) x y = false) := by
    intro n
    induction n with
    | zero =>
      intro k hk
      obtain rfl : k = l.length := by omega
      exact ⟨.inr (), loop_out (by simp [slices_IndexFunc_Lapi_Rect_api_Rect__cut_InRegion_1_l1]), by simp [sqIn]⟩
    | succ n ih =>
      intro k hk
      have hlt : k < l.length := by omega
      have hr : l[k]? = some l[k] := by simp
      have h1 : decide ((k : Int) < (l.length : Int)) = true := by simp; omega
      have hb : slices_IndexFunc_Lapi_Rect_api_Rect__cut_InRegion_1_l1 l x y 1 1 (k : Int) = if decide (inRect ⟨x, y, 1, 1⟩ l[k]) then some (.inr (.inl (k : Int))) else some (.inl ((k + 1 : Nat) : Int)) := by
        unfold slices_IndexFunc_Lapi_Rect_api_Rect__cut_InRegion_1_l1 cut_InRegion_1
        simp only [h1, if_true, idx_of hr, Option.bind_some, Inside_eq]
        rw [iadd_eq (by omega) (by omega)]
        rfl
      have e : sqIn (l.drop k) x y = (decide (inRect ⟨x, y, 1, 1⟩ l[k]) || sqIn (l.drop (k + 1)) x y) := by
        unfold sqIn; rw [List.drop_eq_getElem_cons hlt, List.any_cons]
      by_cases hq : inRect ⟨x, y, 1, 1⟩ l[k]
      · rw [if_pos (by simpa using hq)] at hb
        exact ⟨.inl k, loop_out hb, by omega, by rw [e]; simp [hq]⟩
      · rw [if_neg (by simpa using hq)] at hb
        obtain ⟨r, q1, q2⟩ := ih (k + 1) (by omega)
        refine ⟨r, (loop_in hb).trans q1, ?_⟩
        cases r with
        | inl j => exact ⟨q2.1, by rw [e, q2.2]; simp⟩
        | inr u => simp only at q2 ⊢; rw [e, q2]; simp [hq]
  obtain ⟨r, q1, q2⟩ := key l.length 0 (by omega)
  rw [show (0 : Int) = ((0 : Nat) : Int) from rfl, q1]
  cases r with
  | inl j => simp only [List.drop_zero] at q2; simp [q2.1, q2.2]
  | inr u => simp only [List.drop_zero] at q2; simp [q2]
theorem inReg_eq (l : List Rect) (s : Spot) (h : l.length ≤ 9223372036854775806) (hb : -4194304 ≤ s.X ∧ s.X ≤ 4194304 ∧ -4194304 ≤ s.Y ∧ s.Y ≤ 4194304) : cut_InRegion l s = some (sqIn l (s.X - 1) (s.Y - 1) && (sqIn l s.X (s.Y - 1) && (sqIn l (s.X - 1) s.Y && sqIn l s.X s.Y))) := by
  unfold cut_InRegion
  have b1 : ¬ s.X < -4194304 := by omega
  have b2 : ¬ s.X > 4194304 := by omega
  have b3 : ¬ s.Y < -4194304 := by omega
  have b4 : ¬ s.Y > 4194304 := by omega
  simp only [b1, b2, b3, b4, decide_false, Bool.false_eq_true, if_false, Option.bind_some]
  have hL : loopT (cut_InRegion_l1 l s) 0 = some (if [(⟨s.X - 1, s.Y - 1, 1, 1⟩ : Rect), ⟨s.X, s.Y - 1, 1, 1⟩, ⟨s.X - 1, s.Y, 1, 1⟩, ⟨s.X, s.Y, 1, 1⟩].all (fun q => sqIn l q.X q.Y) then .inr () else .inl ()) := by
   refine loop_all [(⟨s.X - 1, s.Y - 1, 1, 1⟩ : Rect), ⟨s.X, s.Y - 1, 1, 1⟩, ⟨s.X - 1, s.Y, 1, 1⟩, ⟨s.X, s.Y, 1, 1⟩] (cut_InRegion_l1 l s) (fun q => sqIn l q.X q.Y) (.inl ()) (.inr ()) (fun k q hq => ?_) ?_
   · have hk := (List.getElem?_eq_some_iff.1 hq).1
     have h1 : decide ((k : Int) < 4) = true := by simp at hk ⊢; omega
     have hwh : q.W = 1 ∧ q.H = 1 := by
       have := List.mem_of_getElem? hq
       simp only [List.mem_cons, List.not_mem_nil, or_false] at this
       rcases this with rfl | rfl | rfl | rfl <;> exact ⟨rfl, rfl⟩
     unfold cut_InRegion_l1
     rw [isub_eq (by omega) (by omega), isub_eq (by omega) (by omega)]
     simp only [List.length_cons, List.length_nil, Int.reduceAdd, Int.natCast_add, Int.cast_ofNat_Int, h1, if_true, idx_of hq, Option.bind_some, hwh.1, hwh.2, contains_eq l _ _ h]
     rw [iadd_eq (by simp at hk; omega) (by simp at hk; omega)]
     cases sqIn l q.X q.Y <;> rfl
   · unfold cut_InRegion_l1
     simp
  rw [hL]
  simp only [List.all_cons, List.all_nil, Bool.and_true, Option.bind_some]
  cases sqIn l (s.X - 1) (s.Y - 1) && (sqIn l s.X (s.Y - 1) && (sqIn l (s.X - 1) s.Y && sqIn l s.X s.Y)) <;> rfl
theorem sq_far (l : List Rect) (x y : Int) (h : ¬ (-1048576 ≤ x ∧ x < 1048576 ∧ -1048576 ≤ y ∧ y < 1048576)) : sqIn l x y = false := by
  unfold sqIn
  rw [List.any_eq_false]
  intro r _
  simp only [decide_eq_true_eq]
  rintro ⟨hv, _⟩
  unfold vR at hv
  simp only at hv
  omega
theorem InRegion_same (l : List Rect) (s : Spot) (h : l.length ≤ 9223372036854775806) : ∃ b, cut_InRegion l s = some b ∧ sheetmetalref07_InRegion l s = some b := by
  by_cases hb : -4194304 ≤ s.X ∧ s.X ≤ 4194304 ∧ -4194304 ≤ s.Y ∧ s.Y ≤ 4194304
  · refine ⟨_, inReg_eq l s h hb, ?_⟩
    unfold sheetmetalref07_InRegion
    by_cases hn : -1048576 < s.X ∧ s.X < 1048576 ∧ -1048576 < s.Y ∧ s.Y < 1048576
    · have b1 : ¬ s.X ≤ -1048576 := by omega
      have b2 : ¬ s.X ≥ 1048576 := by omega
      have b3 : ¬ s.Y ≤ -1048576 := by omega
      have b4 : ¬ s.Y ≥ 1048576 := by omega
      rw [isub_eq (by omega) (by omega), isub_eq (by omega) (by omega)]
      simp only [b1, b2, b3, b4, decide_false, Bool.false_eq_true, if_false, Option.bind_some, square_eq l _ _ h]
      cases sqIn l s.X s.Y <;> cases sqIn l (s.X - 1) s.Y <;> cases sqIn l s.X (s.Y - 1) <;> cases sqIn l (s.X - 1) (s.Y - 1) <;> rfl
    · have hf : (sqIn l (s.X - 1) (s.Y - 1) && (sqIn l s.X (s.Y - 1) && (sqIn l (s.X - 1) s.Y && sqIn l s.X s.Y))) = false := by
        by_cases q : s.X ≤ -1048576 ∨ s.Y ≤ -1048576
        · rw [sq_far l (s.X - 1) (s.Y - 1) (by omega)]; rfl
        · rw [sq_far l s.X s.Y (by omega)]; simp
      rw [hf]
      by_cases q1 : s.X ≤ -1048576
      · simp [q1]
      · by_cases q2 : s.X ≥ 1048576
        · simp [q1, q2]
        · by_cases q3 : s.Y ≤ -1048576
          · simp [q1, q2, q3]
          · have q4 : s.Y ≥ 1048576 := by omega
            simp [q1, q2, q3, q4]
  · refine ⟨false, ?_, ?_⟩
    · unfold cut_InRegion
      by_cases q1 : s.X < -4194304
      · simp [q1]
      · by_cases q2 : s.X > 4194304
        · simp [q1, q2]
        · by_cases q3 : s.Y < -4194304
          · simp [q1, q2, q3]
          · have q4 : s.Y > 4194304 := by omega
            simp [q1, q2, q3, q4]
    · unfold sheetmetalref07_InRegion
      by_cases q1 : s.X ≤ -1048576
      · simp [q1]
      · by_cases q2 : s.X ≥ 1048576
        · simp [q1, q2]
        · by_cases q3 : s.Y ≤ -1048576
          · simp [q1, q2, q3]
          · have q4 : s.Y ≥ 1048576 := by omega
            simp [q1, q2, q3, q4]
theorem law_CutSmall (x : Piece) (l : List Rect) (s : Spot) : sheetmetallaw07_CutSmall x l s = some true := by
  unfold sheetmetallaw07_CutSmall
  by_cases h1 : (x.Rects.length : Int) > 200
  · simp [h1, known_ok]
  · by_cases h2 : (l.length : Int) > 200
    · simp [h1, h2, known_ok]
    · obtain ⟨b, q1, q2⟩ := InRegion_same l s (by omega)
      simp [h1, h2, known_ok, Small_eq x (by omega), rSmall_eq x (by omega), q1, q2]
end Go.SM
