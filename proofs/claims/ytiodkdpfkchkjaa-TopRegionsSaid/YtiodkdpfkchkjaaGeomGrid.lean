/- Grids of rectangles: what the program and the document lay out. -/
import Derived.Test.YtiodkdpfkchkjaaGeomSort
import Derived.Test.YtiodkdpfkchkjaaGeomP
import Derived.Test.YtiodkdpfkchkjaaCells
import Derived.Test.YtiodkdpfkchkjaaRuns
set_option linter.unusedVariables false
set_option linter.unusedSimpArgs false
set_option linter.unusedSectionVars false
namespace Go.SM
open Go Go.VI Go.Cells
def inB (r : Rect) (x y : Int) : Bool := decide (r.X ≤ x) && (decide (x < r.X + r.W) && (decide (r.Y ≤ y) && decide (y < r.Y + r.H)))
def cov (l : List Rect) (x y : Int) : Bool := l.any fun r => inB r x y
def AllV (l : List Rect) : Prop := ∀ r ∈ l, vR r
def validB (l : List Rect) : Bool := l.all fun r => decide (vR r)
theorem validB_iff {l : List Rect} : validB l = true ↔ AllV l := by unfold validB AllV; simp
def xsL (l : List Rect) : List Int := l.flatMap fun r => [r.X, r.X + r.W]
def ysL (l : List Rect) : List Int := l.flatMap fun r => [r.Y, r.Y + r.H]
def mat {β : Type} (xs ys : List Int) (p : Int → Int → β) : List (List β) := xs.dropLast.map fun x => ys.dropLast.map fun y => p x y
/-- ascending, with the members of l -/
def IsGrid (g l : List Int) : Prop := g.Pairwise (fun x y => x < y) ∧ ∀ x, x ∈ g ↔ x ∈ l
theorem grid_unique {g g' l : List Int} (h : IsGrid g l) (h' : IsGrid g' l) : g = g' :=
  sorted_unique (lt := fun x y => x < y) (fun _ => Int.lt_irrefl _) (fun _ _ _ => Int.lt_trans) h.1 h'.1 fun x => (h.2 x).trans (h'.2 x).symm
def codeL (lists : List (List Rect)) : Int := if lists.any (fun l => decide (l.length > 48)) then 4 else if lists.all validB then 0 else 1
theorem rects_ok {lists : List (List Rect)} (hl : lists.length ≤ 10) : geom_rects lists = some (codeL lists) := by
  unfold geom_rects codeL
  rw [loop_all lists (geom_rects_l1 lists) (fun l => !decide (l.length > 48)) (.inl ()) (.inr ()) (fun k x hx => ?s1) ?f1]
  case s1 =>
    have h1 : decide ((k : Int) < (lists.length : Int)) = true := by simp [lt_of_get hx]
    unfold geom_rects_l1
    simp only [h1, if_true, idx_of hx, Option.bind_some, succ_cast k (by have := lt_of_get hx; omega)]
    by_cases h : x.length > 48
    · have : (x.length : Int) > 48 := by omega
      simp [h, this]
    · have : ¬ (x.length : Int) > 48 := by omega
      simp [h, this]
  case f1 => simp [geom_rects_l1]
  by_cases ha : lists.any (fun l => decide (l.length > 48)) = true
  · have : lists.all (fun l => !decide (l.length > 48)) = false := by
      rw [List.all_eq_not_any_not, Bool.not_eq_false']
      simpa using ha
    rw [this, ha]; rfl
  · have h2 : lists.all (fun l => !decide (l.length > 48)) = true := by
      rw [List.all_eq_not_any_not]
      simpa using ha
    have h48 : ∀ l ∈ lists, l.length ≤ 48 := fun l hl => by
      have := List.all_eq_true.1 h2 l hl
      simpa using this
    rw [h2, if_pos rfl, Bool.eq_false_iff.2 ha]
    simp only [Option.bind_some, Bool.false_eq_true, if_false]
    rw [loop_all lists (geom_rects_l3 lists) validB (.inl ()) (.inr ()) (fun k x hx => ?s2) ?f2]
    case s2 =>
      have h1 : decide ((k : Int) < (lists.length : Int)) = true := by simp [lt_of_get hx]
      have hx48 := h48 x (List.mem_of_getElem? hx)
      unfold geom_rects_l3
      simp only [h1, if_true, idx_of hx, Option.bind_some, succ_cast k (by have := lt_of_get hx; omega)]
      rw [loop_all x (geom_rects_l2 x) (fun r => decide (vR r)) (.inl ()) (.inr ()) (fun k x hx => ?s3) ?f3]
      case s3 =>
        have h1 := lt_of_get hx
        unfold geom_rects_l2
        rw [if_pos (by simp; omega), idx_of hx]
        simp only [Option.bind_some, ValidRect_eq, succ_cast k (by omega)]
        cases decide (vR x) <;> rfl
      case f3 => simp [geom_rects_l2]
      unfold validB
      cases x.all (fun r => decide (vR r)) <;> rfl
    case f2 => simp [geom_rects_l3]
    cases lists.all validB <;> rfl
theorem xsL_append (a b : List Rect) : xsL (a ++ b) = xsL a ++ xsL b := by simp [xsL]
theorem ysL_append (a b : List Rect) : ysL (a ++ b) = ysL a ++ ysL b := by simp [ysL]
theorem xsL_len (l : List Rect) : (xsL l).length = 2 * l.length := by
  induction l with
  | nil => rfl
  | cons r l ih => rw [show xsL (r :: l) = [r.X, r.X + r.W] ++ xsL l from rfl, List.length_append, ih]; simp; omega
theorem ysL_len (l : List Rect) : (ysL l).length = 2 * l.length := by
  induction l with
  | nil => rfl
  | cons r l ih => rw [show ysL (r :: l) = [r.Y, r.Y + r.H] ++ ysL l from rfl, List.length_append, ih]; simp; omega
theorem vR_add {r : Rect} (h : vR r) : iadd r.X r.W = r.X + r.W ∧ iadd r.Y r.H = r.Y + r.H := by
  unfold vR at h
  exact ⟨iadd_eq (by omega) (by omega), iadd_eq (by omega) (by omega)⟩
theorem take_snoc {α : Type} {l : List α} {k : Nat} {x : α} (h : l[k]? = some x) : l.take (k + 1) = l.take k ++ [x] := by rw [List.take_add_one, h]; rfl
theorem newGrid_l1_ok {l : List Rect} (hv : AllV l) (hl : l.length ≤ 1000) (a b : List Int) (ha : a.length ≤ 10000) (hb : b.length ≤ 10000) :
    loopT (geom_newGrid_l1 l) (0, a, b) = some (a ++ xsL l, b ++ ysL l) := by
  obtain ⟨r, q1, q2⟩ := loop_rel l (fun k (s : List Int × List Int) => ((k : Int), s.1, s.2)) (geom_newGrid_l1 l) (fun s => (s.1, s.2)) (fun k s => s = (a ++ xsL (l.take k), b ++ ysL (l.take k))) (a, b) (by simp [xsL, ysL])
    (fun k x s hx hI => by
      have h1 := lt_of_get hx
      have hd : decide ((k : Int) < (l.length : Int)) = true := by simp [h1]
      obtain ⟨e1, e2⟩ := vR_add (hv x (List.mem_of_getElem? hx))
      subst hI
      unfold geom_newGrid_l1
      simp only [hd, if_true, idx_of hx, Option.bind_some, e1, e2]
      rw [app_eq (by simp [xsL_len, LIM]; omega), app_eq (by simp [ysL_len, LIM]; omega)]
      simp only [Option.bind_some, succ_cast k (by omega)]
      refine ⟨(a ++ xsL (l.take (k + 1)), b ++ ysL (l.take (k + 1))), ?_, rfl⟩
      rw [take_snoc hx, xsL_append, ysL_append]
      simp [xsL, ysL]) (fun s _ => by simp [geom_newGrid_l1])
  rw [List.take_length] at q2
  rw [show ((0 : Int), a, b) = (((0 : Nat) : Int), (a, b).1, (a, b).2) from rfl, q1, q2]
theorem newGrid_ok {lists : List (List Rect)} (hn : lists.length ≤ 2) (hv : ∀ l ∈ lists, AllV l ∧ l.length ≤ 200) :
    ∃ xs ys, geom_newGrid lists = some ⟨xs, ys⟩ ∧ IsGrid xs (lists.flatMap xsL) ∧ IsGrid ys (lists.flatMap ysL) := by
  have hlen : ∀ ls : List (List Rect), (∀ l ∈ ls, l.length ≤ 200) → (ls.flatMap xsL).length ≤ 400 * ls.length ∧ (ls.flatMap ysL).length ≤ 400 * ls.length := fun ls => by
    induction ls with
    | nil => intro _; simp
    | cons l ls ih =>
      intro h
      have := ih fun x hx => h x (List.mem_cons_of_mem _ hx)
      have := h l List.mem_cons_self
      simp only [List.flatMap_cons, List.length_append, xsL_len, ysL_len, List.length_cons]
      omega
  obtain ⟨r, q1, q2⟩ := loop_rel lists (fun k (s : List Int × List Int) => ((k : Int), s.1, s.2)) (geom_newGrid_l2 lists) (fun s => (s.1, s.2)) (fun k s => s = ((lists.take k).flatMap xsL, (lists.take k).flatMap ysL)) ([], []) (by simp)
    (fun k x s hx hI => by
      have h1 := lt_of_get hx
      have hd : decide ((k : Int) < (lists.length : Int)) = true := by simp [h1]
      obtain ⟨v1, v2⟩ := hv x (List.mem_of_getElem? hx)
      have hl := hlen (lists.take k) fun l hl => (hv l (List.mem_of_mem_take hl)).2
      have : (lists.take k).length ≤ 2 := by rw [List.length_take]; omega
      subst hI
      unfold geom_newGrid_l2
      simp only [hd, if_true, idx_of hx, Option.bind_some, newGrid_l1_ok v1 (show x.length ≤ 1000 by omega) _ _ (show ((lists.take k).flatMap xsL).length ≤ 10000 by omega) (show ((lists.take k).flatMap ysL).length ≤ 10000 by omega), succ_cast k (by omega)]
      refine ⟨((lists.take k).flatMap xsL ++ xsL x, (lists.take k).flatMap ysL ++ ysL x), rfl, ?_⟩
      rw [take_snoc hx, List.flatMap_append, List.flatMap_append]
      simp) (fun s _ => by simp [geom_newGrid_l2])
  rw [List.take_length] at q2
  have hl := hlen lists fun l hl => (hv l hl).2
  obtain ⟨xs, x1, x2, x3⟩ := sortedInt_ok (l := lists.flatMap xsL) (by omega)
  obtain ⟨ys, y1, y2, y3⟩ := sortedInt_ok (l := lists.flatMap ysL) (by omega)
  refine ⟨xs, ys, ?_, ⟨x2, x3⟩, ⟨y2, y3⟩⟩
  unfold geom_newGrid
  rw [show ((0 : Int), ([] : List Int), ([] : List Int)) = (((0 : Nat) : Int), (([], []) : List Int × List Int).1, (([], []) : List Int × List Int).2) from rfl, q1, q2]
  simp only [Option.bind_some, x1, y1]
theorem getD_of {α : Type} {l : List α} {k : Nat} {x d : α} (h : l[k]? = some x) : l.getD k d = x := by rw [List.getD_eq_getElem?_getD, h]; rfl
theorem dropLast_get {α : Type} {l : List α} {k : Nat} {x : α} (h : l.dropLast[k]? = some x) : l[k]? = some x ∧ k + 1 < l.length := by
  have := lt_of_get h
  rw [List.length_dropLast] at this
  rw [List.getElem?_dropLast, if_pos (by omega)] at h
  exact ⟨h, by omega⟩
theorem dropLast_of {α : Type} {l : List α} {k : Nat} (h : k + 1 < l.length) : l.dropLast[k]? = l[k]? := by
  rw [List.getElem?_dropLast, if_pos (by omega)]
theorem fill_get {β : Type} {R : List β} {z v : β} {j : Nat} (h : R[j]? = some v) : (R.take j ++ List.replicate (R.length - j) z)[j]? = some z := by
  have := lt_of_get h
  rw [List.getElem?_append_right (by rw [List.length_take]; omega), List.length_take, List.getElem?_replicate, if_pos (by omega)]
theorem fill_set {β : Type} {R : List β} {z v : β} {j : Nat} (h : R[j]? = some v) : (R.take j ++ List.replicate (R.length - j) z).set j v = R.take (j + 1) ++ List.replicate (R.length - (j + 1)) z := by
  have := lt_of_get h
  rw [List.set_append_right _ _ (by rw [List.length_take]; omega), List.length_take, show j - min j R.length = 0 from by omega, take_snoc h, show R.length - j = R.length - (j + 1) + 1 from by omega, List.replicate_succ, List.set_cons_zero, List.append_assoc]
  rfl
theorem set_self {β : Type} {l : List β} {i : Nat} {v : β} (h : l[i]? = some v) : l.set i v = l := by
  refine List.ext_getElem? fun n => ?_
  rw [List.getElem?_set]
  split
  · rename_i e; subst e
    rw [if_pos (lt_of_get h), h]
  · rfl
theorem mat_len {β : Type} (xs ys : List Int) (p : Int → Int → β) : (mat xs ys p).length = xs.length - 1 := by simp [mat]
theorem mat_get {β : Type} {xs ys : List Int} {p : Int → Int → β} {i : Nat} {x : Int} (hx : xs[i]? = some x) (hi : i + 1 < xs.length) : (mat xs ys p)[i]? = some (ys.dropLast.map fun y => p x y) := by
  unfold mat
  rw [List.getElem?_map, dropLast_of hi, hx]; rfl
theorem row_get {β : Type} {ys : List Int} {q : Int → β} {j : Nat} {y : Int} (hy : ys[j]? = some y) (hj : j + 1 < ys.length) : (ys.dropLast.map q)[j]? = some (q y) := by
  rw [List.getElem?_map, dropLast_of hj, hy]; rfl
/-- the cells of the program's grid -/
theorem covered_ok {xs ys : List Int} {l : List Rect} (hv : AllV l) (hl : l.length ≤ 1000) (hx : xs.length ≤ 1000) (hy : ys.length ≤ 1000) (hxy : 2 ≤ xs.length → 1 ≤ ys.length) :
    geom_grid_covered ⟨xs, ys⟩ l = some (mat xs ys (cov l)) := by
  -- a cell
  have cell : ∀ (i j : Nat) (x y : Int) (base b1 b2 : List (List Bool)) (row : List Bool), xs[i]? = some x → ys[j]? = some y → base[i]? = some row → row[j]? = some false →
      loopT (geom_grid_covered_l2 ⟨xs, ys⟩ l ((i : Int), b1) ((j : Int), b2)) (0, base) = some (base.set i (row.set j (cov l x y))) := fun i j x y base b1 b2 row hx hy hb hr => by
    obtain ⟨r, q1, q2⟩ := loop_rel l (fun k (s : List (List Bool)) => ((k : Int), s)) (geom_grid_covered_l2 ⟨xs, ys⟩ l ((i : Int), b1) ((j : Int), b2)) (fun s => s) (fun k s => s = base.set i (row.set j (cov (l.take k) x y))) base (by
        rw [show cov (l.take 0) x y = false from rfl, set_self hr, set_self hb])
      (fun k r s hr' hI => by
        have h1 := lt_of_get hr'
        have hd : decide ((k : Int) < (l.length : Int)) = true := by simp [h1]
        obtain ⟨e1, e2⟩ := vR_add (hv r (List.mem_of_getElem? hr'))
        have hi := lt_of_get hb
        have hj := lt_of_get hr
        have g1 : (base.set i (row.set j (cov (l.take k) x y)))[i]? = some (row.set j (cov (l.take k) x y)) := by rw [List.getElem?_set, if_pos rfl, if_pos hi]
        have g2 : (row.set j (cov (l.take k) x y))[j]? = some (cov (l.take k) x y) := by rw [List.getElem?_set, if_pos rfl, if_pos hj]
        have hc : cov (l.take (k + 1)) x y = (cov (l.take k) x y || inB r x y) := by rw [take_snoc hr']; simp [cov]
        subst hI
        unfold geom_grid_covered_l2
        simp only [hd, if_true, idx_of hr', idx_of hx, idx_of hy, Option.bind_some, e1, e2]
        have hb' : (if decide (r.X ≤ x) then (if decide (x < r.X + r.W) then (if decide (r.Y ≤ y) then some (decide (y < r.Y + r.H)) else some false) else some false) else some false) = some (inB r x y) := by
          unfold inB
          cases decide (r.X ≤ x) <;> cases decide (x < r.X + r.W) <;> cases decide (r.Y ≤ y) <;> simp
        rw [hb', Option.bind_some]
        cases hin : inB r x y with
        | false =>
          simp only [Bool.false_eq_true, if_false, geom_grid_covered_k1, succ_cast k (by omega)]
          refine ⟨_, rfl, ?_⟩
          rw [hc, hin, Bool.or_false]
        | true =>
          simp only [if_true, idx_of g1, idx_of g2, Option.bind_some, geom_grid_covered_k1, succ_cast k (by omega), Int.toNat_natCast]
          refine ⟨_, rfl, ?_⟩
          rw [hc, hin, Bool.or_true, List.set_set, List.set_set]) (fun s _ => by simp [geom_grid_covered_l2])
    rw [List.take_length] at q2
    rw [show ((0 : Int), base) = (((0 : Nat) : Int), base) from rfl, q1, q2]
  -- a column
  have col : ∀ (i : Nat) (x : Int) (base b1 : List (List Bool)), xs[i]? = some x → base[i]? = some (List.replicate (ys.length - 1) false) →
      loopT (geom_grid_covered_l3 ⟨xs, ys⟩ l ((i : Int), b1) (List.replicate (ys.length - 1) false)) (0, base) = some (base.set i (ys.dropLast.map fun y => cov l x y)) := fun i x base b1 hx hb => by
    obtain ⟨R, hR⟩ : ∃ R, (ys.dropLast.map fun y => cov l x y) = R := ⟨_, rfl⟩
    have hRl : R.length = ys.length - 1 := by rw [← hR]; simp
    have hi := lt_of_get hb
    obtain ⟨r, q1, q2⟩ := loop_rel ys.dropLast (fun k (s : List (List Bool)) => ((k : Int), s)) (geom_grid_covered_l3 ⟨xs, ys⟩ l ((i : Int), b1) (List.replicate (ys.length - 1) false)) (fun s => s) (fun k s => s = base.set i (R.take k ++ List.replicate (R.length - k) false)) base (by
        rw [List.take_zero, List.nil_append, Nat.sub_zero, hRl, set_self hb])
      (fun k y s hy' hI => by
        obtain ⟨gy, ky⟩ := dropLast_get hy'
        have hd : decide ((k : Int) < ((List.replicate (ys.length - 1) false).length : Int)) = true := by simp; omega
        have hRk : R[k]? = some (cov l x y) := by rw [← hR]; exact row_get gy ky
        subst hI
        have gb : (base.set i (R.take k ++ List.replicate (R.length - k) false))[i]? = some (R.take k ++ List.replicate (R.length - k) false) := by rw [List.getElem?_set, if_pos rfl, if_pos hi]
        unfold geom_grid_covered_l3
        simp only [hd, if_true, cell i k x y _ b1 (base.set i (R.take k ++ List.replicate (R.length - k) false)) _ hx gy gb (fill_get hRk), Option.bind_some, succ_cast k (by omega)]
        refine ⟨_, rfl, ?_⟩
        rw [List.set_set, fill_set hRk]) (fun s _ => by simp [geom_grid_covered_l3])
    rw [List.length_dropLast, ← hRl, List.take_length, Nat.sub_self, List.replicate_zero, List.append_nil] at q2
    rw [show ((0 : Int), base) = (((0 : Nat) : Int), base) from rfl, q1, q2, hR]
  obtain ⟨R, hR⟩ : ∃ R, mat xs ys (cov l) = R := ⟨_, rfl⟩
  have hRl : R.length = xs.length - 1 := by rw [← hR, mat_len]
  have hmk : mk (imax 0 (isub (xs.length : Int) 1)) ([] : List Bool) = some (List.replicate (xs.length - 1) []) := by
    rw [isub_eq (by omega) (by omega), imax_eq]
    unfold mk
    rw [if_pos ⟨by omega, by simp [LIM]; omega⟩, show (max 0 ((xs.length : Int) - 1)).toNat = xs.length - 1 from by omega]
  obtain ⟨r, q1, q2⟩ := loop_rel xs.dropLast (fun k (s : List (List Bool)) => ((k : Int), s)) (geom_grid_covered_l4 ⟨xs, ys⟩ l (List.replicate (xs.length - 1) [])) (fun s => s) (fun k s => s = R.take k ++ List.replicate (R.length - k) []) (List.replicate (xs.length - 1) []) (by
      rw [List.take_zero, List.nil_append, Nat.sub_zero, hRl])
    (fun k x s hx' hI => by
      obtain ⟨gx, kx⟩ := dropLast_get hx'
      have hd : decide ((k : Int) < ((List.replicate (xs.length - 1) ([] : List Bool)).length : Int)) = true := by simp; omega
      have hRk : R[k]? = some (ys.dropLast.map fun y => cov l x y) := by rw [← hR]; exact mat_get gx kx
      have hy1 := hxy (by omega)
      have hmk : mk (isub (ys.length : Int) 1) false = some (List.replicate (ys.length - 1) false) := by
        rw [isub_eq (by omega) (by omega)]
        unfold mk
        rw [if_pos ⟨by omega, by simp [LIM]; omega⟩, show ((ys.length : Int) - 1).toNat = ys.length - 1 from by omega]
      have hkR := lt_of_get hRk
      have g0 : s[k]? = some [] := by rw [hI]; exact fill_get hRk
      have hks := lt_of_get g0
      have g1 : (s.set k (List.replicate (ys.length - 1) false))[k]? = some (List.replicate (ys.length - 1) false) := by rw [List.getElem?_set, if_pos rfl, if_pos hks]
      unfold geom_grid_covered_l4
      simp only [hd, if_true, hmk, Option.bind_some, idx_of g0, Int.toNat_natCast, idx_of g1, col k x _ s gx g1, succ_cast k (by omega)]
      refine ⟨_, rfl, ?_⟩
      rw [List.set_set, hI, fill_set hRk]) (fun s _ => by simp [geom_grid_covered_l4])
  rw [List.length_dropLast, ← hRl, List.take_length, Nat.sub_self, List.replicate_zero, List.append_nil] at q2
  unfold geom_grid_covered
  rw [hmk, Option.bind_some, show ((0 : Int), List.replicate (xs.length - 1) ([] : List Bool)) = (((0 : Nat) : Int), List.replicate (xs.length - 1) []) from rfl, q1, q2, hR]
  rfl
end Go.SM
