/- The laws GeomSweeps and GeomSweepHolds, on the models. -/
import Derived.Test.YtiodkdpfkchkjaaHullHolds
import Derived.Test.YtiodkdpfkchkjaaGeMT
set_option linter.unusedVariables false
set_option linter.unusedSimpArgs false
set_option linter.unusedSectionVars false
namespace Go.SM
open Go Go.VI Go.Geo R3
def ptsA (l : List Spot) (k : Nat) : List Point := l.map fun s => turnR s k
def Near (l : List Spot) : Prop := ∀ s ∈ l, sIn s = true
noncomputable def hullOf (l : List Point) : List Point := open Classical in if h : ∃ h, IsHull orR ltQ l h then Classical.choose h else []
theorem hullOf_eq {l h : List Point} (hh : IsHull orR ltQ l h) : hullOf l = h := by
  unfold hullOf
  have hx : ∃ h, IsHull orR ltQ l h := ⟨h, hh⟩
  rw [dif_pos hx]
  exact hull_unique planeP (Classical.choose_spec hx) hh
theorem hullOf_is {l : List Point} (hp : Pts l) (hl : l.length ≤ 1000) (hne : l ≠ []) : geom_hull l = some (hullOf l) ∧ IsHull orR ltQ l (hullOf l) := by
  obtain ⟨h, h1, h2⟩ := hull_ok hp hl hne
  rw [hullOf_eq h2]
  exact ⟨h1, h2⟩
theorem ptsA_in {l : List Spot} (hn : Near l) (k : Nat) : Pts (ptsA l k) := fun p hp => by
  obtain ⟨s, hs, rfl⟩ := List.mem_map.1 hp
  obtain ⟨h1, h2⟩ := turnR_in s k (hn s hs)
  exact pIn_iff.2 ⟨rIn_mono (by omega) h1, rIn_mono (by omega) h2⟩
theorem pts_append {a b : List Point} (ha : Pts a) (hb : Pts b) : Pts (a ++ b) := fun p hp => (List.mem_append.1 hp).elim (ha p) (hb p)
theorem eta (p : Point) : (Point.mk (Root.mk (tupP p).1.X.A (tupP p).1.X.B) (Root.mk (tupP p).1.Y.A (tupP p).1.Y.B)) = p := rfl
theorem at_ok {l : List Spot} (hn : Near l) (hl : l.length ≤ 100) {k : Nat} (hk : k < 12) : geom_Sweep_1 (k : Int) l = some (ptsA l k) := by
  unfold geom_Sweep_1
  obtain ⟨r, q1, q2⟩ := loop_rel l (fun i (s : List Point) => ((i : Int), s)) (geom_Sweep_1_l1 (k : Int) l) (fun s => s) (fun i s => s = ptsA (l.take i) k) [] rfl
    (fun i x s hx hI => by
      have h1 := lt_of_get hx
      have hd : (i : Int) < (l.length : Int) := by omega
      unfold geom_Sweep_1_l1
      simp only [hd, decide_true, if_true, idx_of hx, Option.bind_some, (turned_eq x k (hn x (List.mem_of_getElem? hx)) hk).1, eta, succ_cast i (by omega)]
      rw [app_eq (by subst hI; simp [LIM, ptsA]; omega)]
      exact ⟨_, rfl, by rw [hI, take_snoc hx]; simp [ptsA]⟩) (fun s _ => by simp [geom_Sweep_1_l1])
  rw [List.take_length] at q2
  rw [show ((0 : Int), ([] : List Point)) = (((0 : Nat) : Int), []) from rfl, q1, q2]; rfl
def scond (l : List Spot) (f t : Int) : Prop := l.length = 0 ∨ l.length > 12 ∨ f < 0 ∨ t > 6 ∨ f > t
instance (l : List Spot) (f t : Int) : Decidable (scond l f t) := by unfold scond; infer_instance
def scode (l : List Spot) (f t : Int) : Int := if scond l f t then 1 else if l.all sIn then 0 else 1
noncomputable def sweepL (l : List Spot) (f t : Nat) : List (List Point) := if f = t then [hullOf (ptsA l f)] else (List.range (t - f)).map fun j => hullOf (ptsA l (f + j) ++ ptsA l (f + j + 1))
theorem cond_ok (l : List Spot) (f t : Int) : (if ((l.length : Int) == 0) then (some true) else (if (decide ((l.length : Int) > 12)) then (some true) else (if (decide (f < 0)) then (some true) else (if (decide (t > 6)) then (some true) else (some (decide (f > t))))))) = some (decide (scond l f t)) := by
  unfold scond
  by_cases h0 : l.length = 0
  · simp [h0]
  have h0' : ((l.length : Int) == 0) = false := by rw [beq_eq_false_iff_ne]; omega
  by_cases h1 : l.length > 12
  · have : (l.length : Int) > 12 := by omega
    simp [h0', this, h1]
  have h1' : ¬ (l.length : Int) > 12 := by omega
  simp only [h0', h1', decide_false, Bool.false_eq_true, if_false]
  by_cases h2 : f < 0
  · simp [h2]
  by_cases h3 : t > 6
  · simp [h2, h3]
  simp only [h2, h3, decide_false, Bool.false_eq_true, if_false]
  congr 1
  have : (l.length = 0 ∨ l.length > 12 ∨ False ∨ False ∨ f > t) ↔ f > t := by
    constructor
    · rintro (q | q | q | q | q)
      · exact absurd q h0
      · exact absurd q h1
      · exact q.elim
      · exact q.elim
      · exact q
    · exact fun q => .inr (.inr (.inr (.inr q)))
  rw [decide_eq_decide]; exact this.symm
theorem scode_zero {l : List Spot} {f t : Int} (h : scode l f t = 0) : Near l ∧ l ≠ [] ∧ l.length ≤ 12 ∧ ∃ a b : Nat, f = a ∧ t = b ∧ a ≤ b ∧ b ≤ 6 := by
  unfold scode at h
  split at h
  · cases h
  · rename_i q
    unfold scond at q
    split at h
    · rename_i q2
      refine ⟨fun s hs => List.all_eq_true.1 q2 s hs, fun e => q (.inl (by rw [e]; rfl)), by omega, f.toNat, t.toNat, by omega, by omega, by omega, by omega⟩
    · cases h
theorem Sweep_ok (l : List Spot) (f t : Int) : (scode l f t ≠ 0 → geom_Sweep l f t = some ([], scode l f t)) ∧ (scode l f t = 0 → geom_Sweep l f t = some (sweepL l f.toNat t.toNat, 0)) := by
  have near : l.length ≤ 12 → loopT (geom_Sweep_l1 l) 0 = some (if l.all sIn then .inr () else .inl ()) := fun hl => by
    refine loop_all l (geom_Sweep_l1 l) sIn (.inl ()) (.inr ()) (fun k x hx => ?_) (by simp [geom_Sweep_l1])
    have h1 := lt_of_get hx
    unfold geom_Sweep_l1
    rw [if_pos (by simp; omega), idx_of hx]
    simp only [Option.bind_some, near_eq, succ_cast k (by omega)]
    cases sIn x <;> rfl
  unfold geom_Sweep
  rw [cond_ok, Option.bind_some]
  constructor
  · intro hc
    unfold scode at hc ⊢
    by_cases q : scond l f t
    · simp [q]
    · have hl : l.length ≤ 12 := by unfold scond at q; omega
      rw [if_neg q] at hc ⊢
      have : l.all sIn = false := by
        cases h : l.all sIn with
        | false => rfl
        | true => rw [h] at hc; exact absurd rfl hc
      simp only [q, decide_false, Bool.false_eq_true, if_false, near hl, this, Option.bind_some]
  · intro hc
    obtain ⟨hn, hne, hl, a, b, rfl, rfl, hab, hb⟩ := scode_zero hc
    have hq : ¬ scond l (a : Int) (b : Int) := by
      have := List.length_pos_iff.2 hne
      unfold scond; omega
    have hall : l.all sIn = true := List.all_eq_true.2 hn
    simp only [hq, decide_false, Bool.false_eq_true, if_false, near hl, hall, if_true, Option.bind_some, Int.toNat_natCast]
    have ne : ∀ k, ptsA l k ≠ [] := fun k e => hne (by simpa [ptsA] using e)
    have len : ∀ k, (ptsA l k).length = l.length := fun k => by simp [ptsA]
    unfold sweepL
    by_cases e : a = b
    · subst e
      have h1 := (hullOf_is (ptsA_in hn a) (by rw [len]; omega) (ne a)).1
      simp only [beq_self_eq_true, if_true, at_ok hn (show l.length ≤ 100 by omega) (show a < 12 by omega), Option.bind_some, h1]
    · have he : (((a : Nat) : Int) == ((b : Nat) : Int)) = false := by rw [beq_eq_false_iff_ne]; omega
      simp only [he, Bool.false_eq_true, if_false, e]
      obtain ⟨r, q1, q2, q3⟩ := loop_rel (List.range (b - a)) (fun k (s : List (List Point)) => (((a + k : Nat) : Int), s)) (geom_Sweep_l2 l (b : Int)) (fun s => s) (fun k s => s = (List.range k).map (fun j => hullOf (ptsA l (a + j) ++ ptsA l (a + j + 1))) ∧ s.length ≤ k) [] ⟨rfl, by simp⟩
        (fun k x s hx hI => by
          have hk := lt_of_get hx
          simp at hk
          have hd : ((a + k : Nat) : Int) < (b : Int) := by omega
          have s1 : iadd ((a + k : Nat) : Int) 1 = ((a + k + 1 : Nat) : Int) := succ_cast _ (by omega)
          have h1 := (hullOf_is (pts_append (ptsA_in hn (a + k)) (ptsA_in hn (a + k + 1))) (by rw [List.length_append, len, len]; omega) (by simp [ne])).1
          unfold geom_Sweep_l2
          simp only [hd, decide_true, if_true, s1, at_ok hn (show l.length ≤ 100 by omega) (show a + k < 12 by omega), at_ok hn (show l.length ≤ 100 by omega) (show a + k + 1 < 12 by omega), Option.bind_some]
          rw [app_eq (by rw [len, len]; simp [LIM]; omega), Option.bind_some, h1, Option.bind_some, app_eq (by simp [LIM]; omega)]
          refine ⟨_, rfl, ?_, by simp; omega⟩
          rw [hI.1, List.range_succ, List.map_append]; rfl) (fun s _ => by
          have : ¬ ((a + (List.range (b - a)).length : Nat) : Int) < (b : Int) := by rw [List.length_range]; omega
          unfold geom_Sweep_l2
          simp only [this, decide_false, Bool.false_eq_true, if_false])
      rw [List.length_range] at q2
      have q1' : loopT (geom_Sweep_l2 l (b : Int)) ((a : Int), []) = some r := q1
      rw [q1', q2]; rfl
theorem rSweep_ok (l : List Spot) (f t : Int) : (scode l f t ≠ 0 → sheetmetalref01_Sweep l f t = some ([], scode l f t)) ∧ (scode l f t = 0 → sheetmetalref01_Sweep l f t = some (sweepL l f.toNat t.toNat, 0)) := by
  have near : l.length ≤ 12 → loopT (sheetmetalref01_Sweep_l1 l) 0 = some (if l.all sIn then .inr () else .inl ()) := fun hl => by
    refine loop_all l (sheetmetalref01_Sweep_l1 l) sIn (.inl ()) (.inr ()) (fun k x hx => ?_) (by simp [sheetmetalref01_Sweep_l1])
    have h1 := lt_of_get hx
    unfold sheetmetalref01_Sweep_l1
    rw [if_pos (by simp; omega), idx_of hx]
    simp only [Option.bind_some, spotIn_eq, succ_cast k (by omega)]
    cases sIn x <;> rfl
  unfold sheetmetalref01_Sweep
  rw [cond_ok, Option.bind_some]
  constructor
  · intro hc
    unfold scode at hc ⊢
    by_cases q : scond l f t
    · simp [q]
    · have hl : l.length ≤ 12 := by unfold scond at q; omega
      rw [if_neg q] at hc ⊢
      have : l.all sIn = false := by
        cases h : l.all sIn with
        | false => rfl
        | true => rw [h] at hc; exact absurd rfl hc
      simp only [q, decide_false, Bool.false_eq_true, if_false, near hl, this, Option.bind_some]
  · intro hc
    obtain ⟨hn, hne, hl, a, b, rfl, rfl, hab, hb⟩ := scode_zero hc
    have hq : ¬ scond l (a : Int) (b : Int) := by
      have := List.length_pos_iff.2 hne
      unfold scond; omega
    have hall : l.all sIn = true := List.all_eq_true.2 hn
    simp only [hq, decide_false, Bool.false_eq_true, if_false, near hl, hall, if_true, Option.bind_some, Int.toNat_natCast]
    have ne : ∀ k, ptsA l k ≠ [] := fun k e => hne (by simpa [ptsA] using e)
    have len : ∀ k, (ptsA l k).length = l.length := fun k => by simp [ptsA]
    -- the points of one polygon
    have gather : ∀ (k : Nat) (s0 : List (List Point)), k + 1 < 12 → ∃ x, loopT (sheetmetalref01_Sweep_l3 l (a : Int) (b : Int) ((k : Int), s0)) (0, []) = some x ∧ x.length ≤ 24 ∧ Pts x ∧ ∀ p, p ∈ x ↔ p ∈ (if a < b then ptsA l k ++ ptsA l (k + 1) else ptsA l k) := fun k s0 hk => by
      obtain ⟨r, q1, q2, q3⟩ := loop_rel l (fun i (s : List Point) => ((i : Int), s)) (sheetmetalref01_Sweep_l3 l (a : Int) (b : Int) ((k : Int), s0)) (fun s => s) (fun i s => s = (l.take i).flatMap (fun s => if a < b then [turnR s k, turnR s (k + 1)] else [turnR s k]) ∧ s.length ≤ 2 * i) [] ⟨rfl, by simp⟩
        (fun i x s hx hI => by
          have h1 := lt_of_get hx
          have hd : (i : Int) < (l.length : Int) := by omega
          have hs := hn x (List.mem_of_getElem? hx)
          have s1 : iadd (k : Int) 1 = ((k + 1 : Nat) : Int) := succ_cast _ (by omega)
          unfold sheetmetalref01_Sweep_l3
          simp only [hd, decide_true, if_true, idx_of hx, Option.bind_some, (turned_eq x k hs (by omega)).2, eta, s1, (turned_eq x (k + 1) hs (by omega)).2, sheetmetalref01_Sweep_k2, succ_cast i (by omega)]
          rw [app_eq (by simp [LIM]; omega), Option.bind_some]
          by_cases hab : a < b
          · have hab' : (a : Int) < (b : Int) := by omega
            simp only [hab', decide_true, if_true]
            rw [app_eq (by simp [LIM]; omega), Option.bind_some]
            refine ⟨_, rfl, ?_, by simp; omega⟩
            rw [hI.1, take_snoc hx, List.flatMap_append]; simp [hab]
          · have hab' : ¬ (a : Int) < (b : Int) := by omega
            simp only [hab', decide_false, Bool.false_eq_true, if_false]
            refine ⟨_, rfl, ?_, by simp; omega⟩
            rw [hI.1, take_snoc hx, List.flatMap_append]; simp [hab]) (fun s _ => by simp [sheetmetalref01_Sweep_l3])
      rw [List.take_length] at q2
      have mem : ∀ p, p ∈ r ↔ p ∈ (if a < b then ptsA l k ++ ptsA l (k + 1) else ptsA l k) := fun p => by
        rw [q2]
        by_cases hab : a < b
        · simp only [hab, if_true, List.mem_flatMap, List.mem_append, ptsA, List.mem_map]
          constructor
          · rintro ⟨s, hs, hp⟩
            simp at hp
            rcases hp with rfl | rfl
            · exact .inl ⟨s, hs, rfl⟩
            · exact .inr ⟨s, hs, rfl⟩
          · rintro (⟨s, hs, rfl⟩ | ⟨s, hs, rfl⟩)
            · exact ⟨s, hs, by simp⟩
            · exact ⟨s, hs, by simp⟩
        · simp only [hab, if_false, List.mem_flatMap, ptsA, List.mem_map]
          constructor
          · rintro ⟨s, hs, hp⟩
            simp at hp
            exact ⟨s, hs, hp.symm⟩
          · rintro ⟨s, hs, rfl⟩
            exact ⟨s, hs, by simp⟩
      refine ⟨r, by rw [show ((0 : Int), ([] : List Point)) = (((0 : Nat) : Int), []) from rfl, q1], by omega, fun p hp => ?_, mem⟩
      have := (mem p).1 hp
      split at this
      · exact pts_append (ptsA_in hn k) (ptsA_in hn (k + 1)) p this
      · exact ptsA_in hn k p this
    unfold sweepL
    by_cases e : a = b
    · subst e
      simp only [if_true]
      obtain ⟨x, x1, x2, x3, x4⟩ := gather a [] (by omega)
      simp only [Nat.lt_irrefl, if_false] at x4
      have hh := (hullOf_is (ptsA_in hn a) (by rw [len]; omega) (ne a)).2
      have hw := wrap_ok (fit_pts x3 (by omega)) (hh.of_mem fun p => (x4 p).symm)
      have b1 : sheetmetalref01_Sweep_l4 l (a : Int) (a : Int) ((a : Int), []) = some (.inl (((a + 1 : Nat) : Int), [hullOf (ptsA l a)])) := by
        unfold sheetmetalref01_Sweep_l4
        simp only [Int.lt_irrefl, decide_false, Bool.false_eq_true, if_false, beq_self_eq_true, Option.bind_some, if_true, x1, hw, succ_cast a (by omega)]
        rw [app_eq (by simp [LIM])]; rfl
      have b2 : sheetmetalref01_Sweep_l4 l (a : Int) (a : Int) (((a + 1 : Nat) : Int), [hullOf (ptsA l a)]) = some (.inr [hullOf (ptsA l a)]) := by
        have c1 : ¬ ((a + 1 : Nat) : Int) < (a : Int) := by omega
        have c2 : (((a + 1 : Nat) : Int) == (a : Int)) = false := by rw [beq_eq_false_iff_ne]; omega
        unfold sheetmetalref01_Sweep_l4
        simp only [c1, decide_false, Bool.false_eq_true, if_false, c2, Option.bind_some]
      rw [loop_in b1, loop_out b2]; rfl
    · simp only [e, if_false]
      have hab : a < b := by omega
      obtain ⟨r, q1, q2, q3⟩ := loop_rel (List.range (b - a)) (fun k (s : List (List Point)) => (((a + k : Nat) : Int), s)) (sheetmetalref01_Sweep_l4 l (a : Int) (b : Int)) (fun s => s) (fun k s => s = (List.range k).map (fun j => hullOf (ptsA l (a + j) ++ ptsA l (a + j + 1))) ∧ s.length ≤ k) [] ⟨rfl, by simp⟩
        (fun k x s hx hI => by
          have hk := lt_of_get hx
          simp at hk
          have hd : ((a + k : Nat) : Int) < (b : Int) := by omega
          obtain ⟨x, x1, x2, x3, x4⟩ := gather (a + k) s (by omega)
          simp only [hab, if_true] at x4
          have hh := (hullOf_is (pts_append (ptsA_in hn (a + k)) (ptsA_in hn (a + k + 1))) (by rw [List.length_append, len, len]; omega) (by simp [ne])).2
          have hw := wrap_ok (fit_pts x3 (by omega)) (hh.of_mem fun p => (x4 p).symm)
          unfold sheetmetalref01_Sweep_l4
          simp only [hd, decide_true, if_true, Option.bind_some, x1, hw, succ_cast (a + k) (by omega)]
          rw [app_eq (by simp [LIM]; omega)]
          refine ⟨_, rfl, ?_, by simp; omega⟩
          rw [hI.1, List.range_succ, List.map_append]; rfl) (fun s _ => by
          have c1 : ¬ ((a + (List.range (b - a)).length : Nat) : Int) < (b : Int) := by rw [List.length_range]; omega
          have c2 : (((a + (List.range (b - a)).length : Nat) : Int) == (a : Int)) = false := by rw [List.length_range, beq_eq_false_iff_ne]; omega
          unfold sheetmetalref01_Sweep_l4
          simp only [c1, decide_false, Bool.false_eq_true, if_false, c2, Option.bind_some])
      rw [List.length_range] at q2
      have q1' : loopT (sheetmetalref01_Sweep_l4 l (a : Int) (b : Int)) ((a : Int), []) = some r := q1
      rw [q1', q2]; rfl
/-- each polygon of a sweep is a hull, and has few corners -/
theorem sweepL_get {l : List Spot} {a b : Nat} (hn : Near l) (hne : l ≠ []) (hl : l.length ≤ 12) (hab : a ≤ b) {j : Nat} {h : List Point} (hj : (sweepL l a b)[j]? = some h) :
    ∃ x, Pts x ∧ x.length ≤ 24 ∧ IsHull orR ltQ x h ∧ j < b - a + 1 ∧ (a = b → x = ptsA l a) ∧ (a < b → x = ptsA l (a + j) ++ ptsA l (a + j + 1)) := by
  have ne : ∀ k, ptsA l k ≠ [] := fun k e => hne (by simpa [ptsA] using e)
  have len : ∀ k, (ptsA l k).length = l.length := fun k => by simp [ptsA]
  unfold sweepL at hj
  split at hj
  · rename_i e
    have := lt_of_get hj
    simp at this
    subst this
    simp at hj
    subst hj
    exact ⟨ptsA l a, ptsA_in hn a, by rw [len]; omega, (hullOf_is (ptsA_in hn a) (by rw [len]; omega) (ne a)).2, by omega, fun _ => rfl, fun q => by omega⟩
  · rename_i e
    have hjl := lt_of_get hj
    rw [List.length_map, List.length_range] at hjl
    rw [List.getElem?_map, List.getElem?_range hjl] at hj
    simp at hj
    subst hj
    refine ⟨_, pts_append (ptsA_in hn (a + j)) (ptsA_in hn (a + j + 1)), by rw [List.length_append, len, len]; omega, (hullOf_is (pts_append (ptsA_in hn (a + j)) (ptsA_in hn (a + j + 1))) (by rw [List.length_append, len, len]; omega) (by simp [ne])).2, by omega, fun q => absurd q e, fun _ => rfl⟩
theorem sweepL_len (l : List Spot) (a b : Nat) : (sweepL l a b).length = if a = b then 1 else b - a := by
  unfold sweepL
  split <;> simp
theorem law_GeomSweeps (l : List Spot) (f t : Int) : sheetmetallaw01_GeomSweeps l f t = some true := by
  unfold sheetmetallaw01_GeomSweeps
  simp only [Option.bind_some, known_eq]
  by_cases h1 : (l.length : Int) > 40
  · simp [h1]
  simp only [h1, decide_false, Bool.false_eq_true, if_false]
  by_cases hc : scode l f t = 0
  · obtain ⟨hn, hne, hl, a, b, rfl, rfl, hab, hb⟩ := scode_zero hc
    have e1 := (Sweep_ok l a b).2 hc
    have e2 := (rSweep_ok l a b).2 hc
    simp only [Int.toNat_natCast] at e1 e2
    have hlen : (sweepL l a b).length ≤ 6 := by rw [sweepL_len]; split <;> omega
    simp only [e1, e2, Option.bind_some, bne_self_eq_false, Bool.false_eq_true, if_false]
    rw [loop_all (sweepL l a b) (sheetmetallaw01_GeomSweeps_l1 (sweepL l a b, 0) (sweepL l a b, 0)) (fun _ => true) (.inl ()) (.inr ()) (fun k x hx => ?s) ?f]
    · simp
    case s =>
      have hk := lt_of_get hx
      have hd : (k : Int) < ((sweepL l a b).length : Int) := by omega
      obtain ⟨y, _, y2, y3, _⟩ := sweepL_get hn hne hl hab hx
      have := hull_len y3
      unfold sheetmetallaw01_GeomSweeps_l1
      simp only [hd, decide_true, if_true, idx_of hx, Option.bind_some, samePoints_self (show x.length ≤ 1000 by omega), Bool.not_true, Bool.false_eq_true, if_false, succ_cast k (by omega)]
    case f => simp [sheetmetallaw01_GeomSweeps_l1]
  · have e1 := (Sweep_ok l f t).1 hc
    have e2 := (rSweep_ok l f t).1 hc
    simp only [e1, e2, Option.bind_some, bne_self_eq_false, Bool.false_eq_true, if_false]
    rw [loop_out (r := .inr ()) (by simp [sheetmetallaw01_GeomSweeps_l1])]
    rfl
theorem inside_ok {x h : List Point} (hx : Pts x) (hl : x.length ≤ 24) (hh : IsHull orR ltQ x h) {p : Point} (hp : pIn p = true) : ∃ b, sheetmetallaw01_inside h p = some b ∧ (p ∈ x → 3 ≤ h.length → b = true) := by
  have hlen := hull_len hh
  have hph : Pts h := fun q hq => hx q (hh.sub q hq)
  obtain ⟨m, m1, _⟩ := hh.min
  have h0 := (List.getElem?_eq_some_iff.1 m1).1
  have hnz : ((h.length : Int) != 0) = true := by rw [bne_iff_ne]; omega
  obtain ⟨q, hq⟩ : ∃ q : Nat → Point → Bool, q = fun i u => !decide (orR u (h.getD ((i + 1) % h.length) p0) p < 0) := ⟨_, rfl⟩
  have loop : loopT (sheetmetallaw01_inside_l1 h p) 0 = some (if (List.range h.length).all (fun i => q i (h.getD i p0)) then .inr () else .inl ()) := by
    refine loop_all (List.range h.length) (sheetmetallaw01_inside_l1 h p) (fun i => q i (h.getD i p0)) (.inl ()) (.inr ()) (fun k x hx => ?_) (by simp [sheetmetallaw01_inside_l1])
    obtain ⟨rfl, hk⟩ : x = k ∧ k < h.length := by
      have := lt_of_get hx
      simp at this
      rw [List.getElem?_range this] at hx
      exact ⟨(Option.some.inj hx).symm, this⟩
    obtain ⟨u, hu⟩ : ∃ u, h[x]? = some u := ⟨_, List.getElem?_eq_getElem hk⟩
    obtain ⟨v, hv⟩ : ∃ v, h[(x + 1) % h.length]? = some v := ⟨_, List.getElem?_eq_getElem (Nat.mod_lt _ (by omega))⟩
    have t1 : Int.tmod (iadd (x : Int) 1) (h.length : Int) = (((x + 1) % h.length : Nat) : Int) := by
      rw [iadd_eq (by omega) (by omega), Int.tmod_eq_emod_of_nonneg (by omega)]; rfl
    have hd : (x : Int) < (h.length : Int) := by omega
    have du : h.getD x p0 = u := by rw [List.getD_eq_getElem?_getD, hu]; rfl
    have dv : h.getD ((x + 1) % h.length) p0 = v := by rw [List.getD_eq_getElem?_getD, hv]; rfl
    unfold sheetmetallaw01_inside_l1
    simp only [hd, decide_true, if_true, idx_of hu, hnz, t1, idx_of hv, Option.bind_some, orient_pts (hph u (List.mem_of_getElem? hu)) (hph v (List.mem_of_getElem? hv)) hp, bne_self_eq_false, Bool.false_eq_true, if_false, hq, du, dv]
    rw [succ_cast x (by omega)]
    by_cases ho : orR u v p < 0
    · simp [ho]
    · simp [ho]
  unfold sheetmetallaw01_inside
  rw [loop, Option.bind_some]
  by_cases hall : (List.range h.length).all (fun i => q i (h.getD i p0)) = true
  · rw [if_pos hall]
    simp only
    by_cases h2 : (h.length : Int) > 2
    · exact ⟨true, by simp [h2], fun _ _ => rfl⟩
    · have hpos : (h.length : Int) > 0 := by omega
      have m1' : idx h 0 = some m := by rw [show (0 : Int) = ((0 : Nat) : Int) from rfl]; exact idx_of m1
      obtain ⟨w, hw⟩ : ∃ w, h[h.length - 1]? = some w := ⟨_, List.getElem?_eq_getElem (by omega)⟩
      have hw' : idx h (isub (h.length : Int) 1) = some w := by
        rw [isub_eq (by omega) (by omega), show (h.length : Int) - 1 = ((h.length - 1 : Nat) : Int) from by omega]; exact idx_of hw
      simp only [h2, hpos, decide_false, decide_true, Bool.false_eq_true, if_false, if_true, m1', hw', Option.bind_some]
      split
      · exact ⟨true, rfl, fun _ _ => rfl⟩
      · exact ⟨_, rfl, fun _ h3 => by omega⟩
  · rw [if_neg hall]
    refine ⟨false, rfl, fun hpx h3 => ?_⟩
    exfalso
    refine hall (List.all_eq_true.2 fun i hi => ?_)
    have hi := List.mem_range.1 hi
    obtain ⟨u, hu⟩ : ∃ u, h[i]? = some u := ⟨_, List.getElem?_eq_getElem hi⟩
    obtain ⟨v, hv⟩ : ∃ v, h[(i + 1) % h.length]? = some v := ⟨_, List.getElem?_eq_getElem (Nat.mod_lt _ (by omega))⟩
    have := hull_left hh hu hv hpx
    have du : h.getD i p0 = u := by rw [List.getD_eq_getElem?_getD, hu]; rfl
    have dv : h.getD ((i + 1) % h.length) p0 = v := by rw [List.getD_eq_getElem?_getD, hv]; rfl
    rw [hq]
    show (!decide (orR (h.getD i p0) (h.getD ((i + 1) % h.length) p0) p < 0)) = true
    rw [du, dv]
    simp; omega
theorem law_GeomSweepHolds (l : List Spot) (f t : Int) : sheetmetallaw01_GeomSweepHolds l f t = some true := by
  unfold sheetmetallaw01_GeomSweepHolds
  simp only [Option.bind_some, known_eq]
  by_cases h1 : (l.length : Int) > 12
  · simp [h1]
  simp only [h1, decide_false, Bool.false_eq_true, if_false]
  by_cases hc : scode l f t = 0
  case neg =>
    have e1 := (Sweep_ok l f t).1 hc
    have : (scode l f t != 0) = true := by simp [hc]
    simp only [e1, Option.bind_some, this, if_true]
    rfl
  obtain ⟨hn, hne, hl, a, b, rfl, rfl, hab, hb⟩ := scode_zero hc
  have e1 := (Sweep_ok l a b).2 hc
  simp only [Int.toNat_natCast] at e1
  simp only [e1, Option.bind_some, bne_self_eq_false, Bool.false_eq_true, if_false]
  have hlen : (sweepL l a b).length ≤ 6 := by rw [sweepL_len]; split <;> omega
  -- one spot at one station
  have one : ∀ (k : Nat) (s : Spot), a ≤ k → k ≤ b → s ∈ l → loopT (sheetmetallaw01_GeomSweepHolds_l1 (sweepL l a b, 0) (tupT (turnR s k, 0))) (false, 0) = some true := fun k s k1 k2 hs => by
    have hpt : pIn (turnR s k) = true := ptsA_in hn k _ (List.mem_map.2 ⟨s, hs, rfl⟩)
    obtain ⟨c, c1, c2⟩ := loop_rel (sweepL l a b) (fun j (c : Bool) => (c, (j : Int))) (sheetmetallaw01_GeomSweepHolds_l1 (sweepL l a b, 0) (tupT (turnR s k, 0))) (fun c => c) (fun j c => (∃ j' x h, j' < j ∧ (sweepL l a b)[j']? = some h ∧ Pts x ∧ x.length ≤ 24 ∧ IsHull orR ltQ x h ∧ turnR s k ∈ x) → c = true) false (by rintro ⟨j', _, _, q, _⟩; omega)
      (fun j h c hh hI => by
        have hj := lt_of_get hh
        have hd : (j : Int) < ((sweepL l a b).length : Int) := by omega
        obtain ⟨x, x1, x2, x3, _⟩ := sweepL_get hn hne hl hab hh
        obtain ⟨bb, b1, b2⟩ := inside_ok x1 x2 x3 hpt
        have b1' : sheetmetallaw01_inside h (Point.mk (Root.mk (tupT (turnR s k, 0)).1.X.A (tupT (turnR s k, 0)).1.X.B) (Root.mk (tupT (turnR s k, 0)).1.Y.A (tupT (turnR s k, 0)).1.Y.B)) = some bb := b1
        unfold sheetmetallaw01_GeomSweepHolds_l1
        simp only [hd, decide_true, if_true, idx_of hh, Option.bind_some, b1', succ_cast j (by omega)]
        cases hcc : c with
        | true =>
          simp only [if_true, Option.bind_some]
          exact ⟨true, rfl, fun _ => rfl⟩
        | false =>
          simp only [Bool.false_eq_true, if_false]
          have old : ¬ (∃ j' x h, j' < j ∧ (sweepL l a b)[j']? = some h ∧ Pts x ∧ x.length ≤ 24 ∧ IsHull orR ltQ x h ∧ turnR s k ∈ x) := fun q => by
            have := hI q; rw [hcc] at this; cases this
          by_cases h3 : (h.length : Int) < 3
          · simp only [h3, decide_true, if_true, Option.bind_some]
            exact ⟨true, rfl, fun _ => rfl⟩
          · simp only [h3, decide_false, Bool.false_eq_true, if_false, Option.bind_some]
            refine ⟨bb, rfl, ?_⟩
            rintro ⟨j', y, g, q1, q2, q3, q4, q5, q6⟩
            by_cases e : j' = j
            · subst e
              rw [hh] at q2
              injection q2 with q2
              subst q2
              obtain ⟨bb', b1', b2'⟩ := inside_ok q3 q4 q5 hpt
              rw [b1] at b1'
              injection b1' with b1'
              rw [b1']
              exact b2' q6 (by omega)
            · exact absurd ⟨j', y, g, by omega, q2, q3, q4, q5, q6⟩ old) (fun c _ => by simp [sheetmetallaw01_GeomSweepHolds_l1])
    have hc : c = true := by
      -- the polygon in which it lies
      have hm : turnR s k ∈ ptsA l k := List.mem_map.2 ⟨s, hs, rfl⟩
      have hlen' := sweepL_len l a b
      by_cases e : a = b
      · rw [if_pos e] at hlen'
        obtain ⟨h, hh⟩ : ∃ h, (sweepL l a b)[0]? = some h := ⟨_, List.getElem?_eq_getElem (by omega)⟩
        obtain ⟨x, x1, x2, x3, x4, x5, _⟩ := sweepL_get hn hne hl hab hh
        refine c2 ⟨0, x, h, by omega, hh, x1, x2, x3, ?_⟩
        rw [x5 e, show a = k from by omega]; exact hm
      · rw [if_neg e] at hlen'
        by_cases ek : k = b
        · obtain ⟨h, hh⟩ : ∃ h, (sweepL l a b)[b - a - 1]? = some h := ⟨_, List.getElem?_eq_getElem (by omega)⟩
          obtain ⟨x, x1, x2, x3, x4, _, x6⟩ := sweepL_get hn hne hl hab hh
          refine c2 ⟨b - a - 1, x, h, by omega, hh, x1, x2, x3, ?_⟩
          rw [x6 (by omega), show a + (b - a - 1) + 1 = k from by omega]; exact List.mem_append_right _ hm
        · obtain ⟨h, hh⟩ : ∃ h, (sweepL l a b)[k - a]? = some h := ⟨_, List.getElem?_eq_getElem (by omega)⟩
          obtain ⟨x, x1, x2, x3, x4, _, x6⟩ := sweepL_get hn hne hl hab hh
          refine c2 ⟨k - a, x, h, by omega, hh, x1, x2, x3, ?_⟩
          rw [x6 (by omega), show a + (k - a) = k from by omega]; exact List.mem_append_left _ hm
    rw [show ((false, (0 : Int)) : Bool × Int) = (false, ((0 : Nat) : Int)) from rfl, c1, hc]
  have outer : loopT (sheetmetallaw01_GeomSweepHolds_l3 l (b : Int) (sweepL l a b, 0)) (a : Int) = some (.inr ()) := by
    obtain ⟨u, u1, _⟩ := loop_rel (List.range (b - a + 1)) (fun k (_ : Unit) => ((a + k : Nat) : Int)) (sheetmetallaw01_GeomSweepHolds_l3 l (b : Int) (sweepL l a b, 0)) (fun _ => .inr ()) (fun _ _ => True) () trivial
      (fun k x _ hx _ => by
        have hk := lt_of_get hx
        simp at hk
        have hd : ((a + k : Nat) : Int) ≤ (b : Int) := by omega
        have inner : loopT (sheetmetallaw01_GeomSweepHolds_l2 l (sweepL l a b, 0) ((a + k : Nat) : Int)) 0 = some (.inr ()) := by
          have := loop_all l (sheetmetallaw01_GeomSweepHolds_l2 l (sweepL l a b, 0) ((a + k : Nat) : Int)) (fun _ => true) (.inl ()) (.inr ()) (fun i s hs => by
            have hi := lt_of_get hs
            have hd : (i : Int) < (l.length : Int) := by omega
            have ms := List.mem_of_getElem? hs
            have ht : geom_Turn s ((a + k : Nat) : Int) = some (tupT (turnR s (a + k), 0)) := by
              rw [(Turn_eq s _).1]
              unfold turnA
              have c1 : decide ((0 : Int) ≤ ((a + k : Nat) : Int)) = true := by rw [decide_eq_true_eq]; omega
              have c2 : decide (((a + k : Nat) : Int) ≤ 11) = true := by rw [decide_eq_true_eq]; omega
              rw [hn s ms, c1, c2, Int.toNat_natCast]; rfl
            unfold sheetmetallaw01_GeomSweepHolds_l2
            simp only [hd, decide_true, if_true, idx_of hs, Option.bind_some, ht, one (a + k) s (by omega) (by omega) ms]
            rw [succ_cast i (by omega)]
            rfl) (by simp [sheetmetallaw01_GeomSweepHolds_l2])
          simpa using this
        unfold sheetmetallaw01_GeomSweepHolds_l3
        simp only [hd, decide_true, if_true, inner, Option.bind_some, succ_cast (a + k) (by omega)]
        exact ⟨(), rfl, trivial⟩) (fun _ _ => by
        have : ¬ ((a + (List.range (b - a + 1)).length : Nat) : Int) ≤ (b : Int) := by rw [List.length_range]; omega
        unfold sheetmetallaw01_GeomSweepHolds_l3
        simp only [this, decide_false, Bool.false_eq_true, if_false])
    exact u1
  rw [outer]
  rfl
end Go.SM
