/- The law GeomHullHolds, on the models. -/
import Derived.Test.YtiodkdpfkchkjaaHullLaw
import Derived.Test.YtiodkdpfkchkjaaGeMI
set_option linter.unusedVariables false
set_option linter.unusedSimpArgs false
set_option linter.unusedSectionVars false
namespace Go.SM
open Go Go.VI Go.Geo R3
theorem hull_self {l h : List Point} (hh : IsHull orR ltQ l h) : IsHull orR ltQ h h := by
  obtain ⟨m, m1, m2⟩ := hh.min
  exact ⟨fun _ q => q, hh.nodup, ⟨m, m1, fun x hx => m2 x (hh.sub x hx)⟩, fun _ _ q => q, fun q i u v hu hv => by
    obtain ⟨n1, n2, n3⟩ := hh.next q i u v hu hv
    exact ⟨n1, List.mem_of_getElem? hv, fun r hr => n3 r (hh.sub r hr)⟩⟩
theorem hull_left {l h : List Point} (hh : IsHull orR ltQ l h) {i : Nat} {u v x : Point} (hu : h[i]? = some u) (hv : h[(i + 1) % h.length]? = some v) (hx : x ∈ l) : 0 ≤ orR u v x := by
  by_cases q : h.length = 1
  · have hi := (List.getElem?_eq_some_iff.1 hu).1
    obtain rfl : i = 0 := by omega
    rw [q, Nat.mod_one, hu] at hv
    injection hv with hv
    subst hv
    have := planeP.self1 u x; omega
  · rcases (hh.next q i u v hu hv).2.2 x hx with s | ⟨s, _⟩ <;> omega
theorem hull_turn {l h : List Point} (hh : IsHull orR ltQ l h) (hn : 2 < h.length) {i : Nat} {u v w : Point} (hu : h[i]? = some u) (hv : h[(i + 1) % h.length]? = some v) (hw : h[(i + 2) % h.length]? = some w) : orR u v w = 1 := by
  have hi := (List.getElem?_eq_some_iff.1 hu).1
  have n1 := hh.next (by omega) i u v hu hv
  have hw' : h[((i + 1) % h.length + 1) % h.length]? = some w := by rw [Nat.mod_add_mod]; exact hw
  have n2 := hh.next (by omega) ((i + 1) % h.length) v w hv hw'
  have wu : w ≠ u := fun e => by
    subst e
    have := get_ne hh.nodup hu hw
    rcases Nat.lt_or_ge (i + 2) h.length with q | q
    · rw [Nat.mod_eq_of_lt q] at this; omega
    · rw [Nat.mod_eq_sub_mod q, Nat.mod_eq_of_lt (by omega)] at this; omega
  have a := n1.2.2 w (hh.sub w (List.mem_of_getElem? hw))
  have b := n2.2.2 u (hh.sub u (List.mem_of_getElem? hu))
  rw [planeP.rot u v w] at b
  have hle := sg_le_one (det u v w)
  have hle : orR u v w ≤ 1 := hle.2
  rcases a with a | ⟨a, c⟩
  · omega
  · rcases b with b | ⟨_, e⟩
    · omega
    · exfalso
      have as : ∀ {x y}, ltQ x y → ltQ y x → False := fun {x y} p q => ltQ_irr x (ltQ_trans p q)
      have wv : w ≠ v := n2.1
      have vu : v ≠ u := n1.1
      unfold Btw at c e
      rcases c with ⟨c1, c2⟩ | ⟨c1, c2⟩ <;> rcases e with ⟨e1, e2⟩ | ⟨e1, e2⟩
      · have c1 := c1.resolve_left wu
        have e2 := e2.resolve_left fun q => wu q.symm
        have c2 := c2.resolve_left wv
        have e1 := e1.resolve_left fun q => vu q.symm
        exact as (ltQ_trans c1 c2) e1
      · exact as (c1.resolve_left wu) (e2.resolve_left fun q => wu q.symm)
      · exact as (e2.resolve_left fun q => wu q.symm) (c1.resolve_left wu)
      · have c2 := c2.resolve_left wv
        have e1 := e1.resolve_left fun q => vu q.symm
        have e2 := e2.resolve_left fun q => wu q.symm
        exact as (ltQ_trans c2 e2) e1
theorem orient_pts {a b c : Point} (ha : pIn a = true) (hb : pIn b = true) (hc : pIn c = true) : geom_Orient a b c = some (orR a b c, 0) := by
  rw [(Orient_eq a b c).1]
  unfold orA
  simp [ha, hb, hc]
theorem law_GeomHullHolds (l : List Point) : sheetmetallaw01_GeomHullHolds l = some true := by
  unfold sheetmetallaw01_GeomHullHolds sheetmetallaw01_long
  simp only [Option.bind_some, known_eq]
  by_cases h1 : (l.length : Int) > 60
  · simp [h1]
  simp only [h1, decide_false, Bool.false_eq_true, if_false]
  rcases Hull_ok l with ⟨hc, q⟩ | ⟨hc, h, q, hh⟩
  · have : (pcode l != 0) = true := by simp [hc]
    simp only [q, Option.bind_some, this, if_true]
    simp
  obtain ⟨_, l24, lp⟩ := pcode_zero hc
  have hlen := hull_len hh
  obtain ⟨m, m1, _⟩ := hh.min
  have h0 := (List.getElem?_eq_some_iff.1 m1).1
  have hp : Pts h := fun p hpp => lp p (hh.sub p hpp)
  have hnz : ((h.length : Int) != 0) = true := by rw [bne_iff_ne]; omega
  -- one corner
  have corner : ∀ i, i < h.length → ∃ u v w, h[i]? = some u ∧ h[(i + 1) % h.length]? = some v ∧ h[(i + 2) % h.length]? = some w ∧ Int.tmod (iadd (i : Int) 1) (h.length : Int) = (((i + 1) % h.length : Nat) : Int) ∧ Int.tmod (iadd (i : Int) 2) (h.length : Int) = (((i + 2) % h.length : Nat) : Int) := fun i hi => by
    refine ⟨_, _, _, List.getElem?_eq_getElem hi, List.getElem?_eq_getElem (Nat.mod_lt _ (by omega)), List.getElem?_eq_getElem (Nat.mod_lt _ (by omega)), ?_, ?_⟩
    · rw [iadd_eq (by omega) (by omega), Int.tmod_eq_emod_of_nonneg (by omega)]; rfl
    · rw [iadd_eq (by omega) (by omega), Int.tmod_eq_emod_of_nonneg (by omega)]; rfl
  have outer : loopT (sheetmetallaw01_GeomHullHolds_l2 l (h, 0)) 0 = some (.inr ()) := by
    have := loop_all h (sheetmetallaw01_GeomHullHolds_l2 l (h, 0)) (fun _ => true) (.inl ()) (.inr ()) (fun i u hu => ?s) ?f
    · simpa using this
    case s =>
      have hi := lt_of_get hu
      obtain ⟨u', v, w, hu', hv, hw, t1, t2⟩ := corner i hi
      rw [hu] at hu'
      injection hu' with hu'
      subst hu'
      have pu := hp u (List.mem_of_getElem? hu)
      have pv := hp v (List.mem_of_getElem? hv)
      have pw := hp w (List.mem_of_getElem? hw)
      obtain ⟨b, b1, b2⟩ := loop_rel l (fun k (b : Bool) => (b, (k : Int))) (sheetmetallaw01_GeomHullHolds_l1 l (h, 0) (i : Int)) (fun b => .inr b) (fun k b => b = true ↔ u ∈ l.take k) false (by simp)
        (fun k x b hx hI => by
          have hk := lt_of_get hx
          have hd : (k : Int) < (l.length : Int) := by omega
          have mx := List.mem_of_getElem? hx
          have ho := hull_left hh hu hv mx
          have hneg : ¬ orR u v x < 0 := by omega
          unfold sheetmetallaw01_GeomHullHolds_l1
          simp only [hd, decide_true, if_true, idx_of hx, idx_of hu, hnz, t1, idx_of hv, Option.bind_some, orient_pts pu pv (lp x mx), bne_self_eq_false, Bool.false_eq_true, if_false, hneg, decide_false, succ_cast k (by omega)]
          cases hb : b with
          | true =>
            simp only [if_true, Option.bind_some]
            refine ⟨true, rfl, ?_⟩
            rw [take_snoc hx]
            have := (hI.1 hb)
            simp [this]
          | false =>
            simp only [Bool.false_eq_true, if_false, Option.bind_some]
            refine ⟨eqP x u, rfl, ?_⟩
            rw [eqP_iff, take_snoc hx, List.mem_append, List.mem_singleton]
            have hno : ¬ u ∈ l.take k := fun q => by have := hI.2 q; rw [hb] at this; cases this
            constructor
            · intro e; exact .inr e.symm
            · rintro (e | e)
              · exact absurd e hno
              · exact e.symm) (fun b _ => by simp [sheetmetallaw01_GeomHullHolds_l1])
      rw [List.take_length] at b2
      have hbt : b = true := b2.2 (hh.sub u (List.mem_of_getElem? hu))
      subst hbt
      have hd : (i : Int) < (h.length : Int) := by omega
      unfold sheetmetallaw01_GeomHullHolds_l2
      rw [show ((false, (0 : Int)) : Bool × Int) = (false, ((0 : Nat) : Int)) from rfl]
      simp only [hd, decide_true, if_true, b1, Option.bind_some, idx_of hu, hnz, t1, t2, idx_of hv, idx_of hw, orient_pts pu pv pw, bne_self_eq_false, Bool.false_eq_true, if_false]
      rw [succ_cast i (by omega)]
      by_cases h2 : (h.length : Int) > 2
      · have ht := hull_turn hh (by omega) hu hv hw
        have : (orR u v w != 1) = false := by simp [ht]
        simp only [h2, decide_true, if_true, this, Option.bind_some, Bool.false_eq_true, if_false]
      · simp only [h2, decide_false, Bool.false_eq_true, if_false, Option.bind_some]
    case f => simp [sheetmetallaw01_GeomHullHolds_l2]
  have hpc : pcode h = 0 := by
    unfold pcode
    have h4 : ¬ (h.length = 0 ∨ h.length > 24) := by omega
    rw [if_neg h4, if_pos (List.all_eq_true.2 hp)]
  have again : geom_Hull h = some (h, 0) := by
    rcases Hull_ok h with ⟨hc', _⟩ | ⟨_, h', q', hh'⟩
    · exact absurd hpc hc'
    · rw [q', hull_unique planeP hh' (hull_self hh)]
  have hpos : decide ((h.length : Int) > 0) = true := by rw [decide_eq_true_eq]; omega
  simp only [q, Option.bind_some, bne_self_eq_false, Bool.false_eq_true, if_false, outer, again, hpos, if_true, beq_self_eq_true, samePoints_self (show h.length ≤ 1000 by omega)]
end Go.SM
