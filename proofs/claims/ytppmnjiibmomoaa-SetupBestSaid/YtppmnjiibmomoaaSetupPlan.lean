/- What setup.Plan does: the sets along the stages. -/
import Derived.Test.YtppmnjiibmomoaaSeMT
import Derived.Test.YtppmnjiibmomoaaSetupStages
import Derived.Test.YtppmnjiibmomoaaSetupCheck
set_option linter.unusedVariables false
set_option linter.unusedSimpArgs false
set_option linter.unusedSectionVars false
namespace Go.SM
open Go Go.VI
/-- the map 'before' leads to the set of the step before -/
def BefOk (m ch be : List (Int × Int)) : Prop := ∀ k v, mfind ch k = some v → ∃ s b : Nat, k = (s : Int) ∧ s < 512 ∧ b < 512 ∧ mfind be k = some (b : Int) ∧ ∃ u, mfind m (b : Int) = some u ∧ v = iadd u (pop (sdiff s b) : Int)
theorem bef_put {m ch be : List (Int × Int)} (h : BefOk m ch be) {s b : Nat} (hs : s < 512) (hb : b < 512) {u : Int} (hu : mfind m (b : Int) = some u) : BefOk m (mput ch (s : Int) (iadd u (pop (sdiff s b) : Int))) (mput be (s : Int) (b : Int)) := by
  intro k v hk
  rw [mfind_put] at hk ⊢
  split at hk
  · rename_i e
    injection hk with hk
    subst hk e
    exact ⟨s, b, rfl, hs, hb, by rw [if_pos rfl], u, hu, rfl⟩
  · rename_i e
    obtain ⟨s', b', q1, q2, q3, q4, q5⟩ := h k v hk
    exact ⟨s', b', q1, q2, q3, by rw [if_neg e]; exact q4, q5⟩
section
variable {st : Int} {m : List (Int × Int)}
theorem mnt_len : (mnt st).length ≤ 512 := by
  have := List.length_filter_le (fun n => decide ((pop n : Int) ≤ st)) (List.range 512)
  simpa [mnt] using this
theorem inner_bef (i0 : Int) (out : List setup_stage) {s : Nat} (hs : s < 512) (ch0 be0 : List (Int × Int)) (hb0 : BefOk m ch0 be0) :
    ∃ a : List (Int × Int) × List (Int × Int), loopT (setup_stages_l3 ((mnt st).map fun (n : Nat) => (n : Int)) (i0, m, out) (s : Int)) (0, ch0, be0) = some a ∧ BefOk m a.1 a.2 := by
  have hlen := mnt_len (st := st)
  refine loop_rel (mnt st) (fun k (a : List (Int × Int) × List (Int × Int)) => ((k : Int), a.1, a.2)) (setup_stages_l3 ((mnt st).map fun (n : Nat) => (n : Int)) (i0, m, out) (s : Int)) (fun a => (a.1, a.2))
    (fun k a => BefOk m a.1 a.2) (ch0, be0) hb0 (fun k b a hb hi => ?_) (fun a _ => by unfold setup_stages_l3; simp)
  have hk := lt_of_get hb
  have hb5 : b < 512 := (mem_mnt.1 (List.mem_of_getElem? hb)).1
  have h1 : decide ((k : Int) < (((mnt st).map fun (n : Nat) => (n : Int)).length : Int)) = true := by simp [hk]
  have h2 : idx ((mnt st).map fun (n : Nat) => (n : Int)) (k : Int) = some (b : Int) := idx_of (by rw [List.getElem?_map, hb]; rfl)
  unfold setup_stages_l3
  simp only [h1, if_true, h2, Option.bind_some]
  cases hm : mfind m (b : Int) with
  | none =>
    simp only [Option.isSome_none, Bool.not_false, if_true, setup_stages_k2]
    rw [succ_cast k (by omega)]
    exact ⟨a, rfl, hi⟩
  | some u =>
    simp only [Option.isSome_some, Bool.not_true, Bool.false_eq_true, if_false, kandNot_nat hs hb5, ones (sdiff_lt (b := b) hs), Option.bind_some, Option.getD_some, setup_stages_k2]
    rw [succ_cast k (by omega)]
    have hj : ∃ j, (if (mfind a.1 (s : Int)).isSome = true then some (decide (iadd u (pop (sdiff s b) : Int) < (mfind a.1 (s : Int)).getD 0)) else some true) = some j := by split <;> exact ⟨_, rfl⟩
    obtain ⟨j, hj⟩ := hj
    rw [hj]
    cases j with
    | true => exact ⟨(_, _), rfl, bef_put hi hs hb5 hm⟩
    | false => exact ⟨a, rfl, hi⟩
theorem stage_bef (i0 : Int) (out : List setup_stage) {need : List Int} (hn : Small need) :
    ∃ a : List (Int × Int) × List (Int × Int), loopT (setup_stages_l4 ((mnt st).map fun (n : Nat) => (n : Int)) (i0, m, out) (toB need : Int)) (0, [], []) = some a ∧ BefOk m a.1 a.2 := by
  have hlen := mnt_len (st := st)
  refine loop_rel (mnt st) (fun k (a : List (Int × Int) × List (Int × Int)) => ((k : Int), a.1, a.2)) (setup_stages_l4 ((mnt st).map fun (n : Nat) => (n : Int)) (i0, m, out) (toB need : Int)) (fun a => (a.1, a.2))
    (fun k a => BefOk m a.1 a.2) ([], []) (fun k v h => by simp [mfind] at h) (fun k s a hs hi => ?_) (fun a _ => by unfold setup_stages_l4; simp)
  have hk := lt_of_get hs
  have hsm := mem_mnt.1 (List.mem_of_getElem? hs)
  have h1 : decide ((k : Int) < (((mnt st).map fun (n : Nat) => (n : Int)).length : Int)) = true := by simp [hk]
  have h2 : idx ((mnt st).map fun (n : Nat) => (n : Int)) (k : Int) = some (s : Int) := idx_of (by rw [List.getElem?_map, hs]; rfl)
  unfold setup_stages_l4
  simp only [h1, if_true, h2, Option.bind_some, kand_hit hsm.1 hn]
  cases hh : hit s need with
  | false =>
    simp only [Bool.not_false, if_true, setup_stages_k1]
    rw [succ_cast k (by omega)]
    exact ⟨a, rfl, hi⟩
  | true =>
    obtain ⟨a', r1, r2⟩ := inner_bef (st := st) i0 out hsm.1 a.1 a.2 hi
    simp only [Bool.not_true, Bool.false_eq_true, if_false, r1, Option.bind_some, setup_stages_k1]
    rw [succ_cast k (by omega)]
    exact ⟨a', rfl, r2⟩
end
/-- the map of the stage before the k-th -/
def prevM (r : List setup_stage) (k : Nat) : List (Int × Int) := match k with
  | 0 => mput [] 0 0
  | k + 1 => match r[k]? with
    | some x => x.changes
    | none => []
theorem stages_bef {st : Int} {needs : List (List Int)} (hlen : needs.length ≤ 60) (hn : ∀ l ∈ needs, Small l ∧ l.length ≤ 60) :
    ∃ r, setup_stages needs st = some r ∧ ∀ (k : Nat) x, r[k]? = some x → BefOk (prevM r k) x.changes x.before := by
  unfold setup_stages
  rw [mounts_ok]
  simp only [Option.bind_some]
  refine Exists.elim (loop_rel needs (fun k (a : List (Int × Int) × List setup_stage) => ((k : Int), a.1, a.2)) (setup_stages_l5 needs ((mnt st).map fun (n : Nat) => (n : Int))) (fun a => a.2)
    (fun k a => a.2.length = k ∧ a.1 = prevM a.2 k ∧ ∀ (j : Nat) x, a.2[j]? = some x → BefOk (prevM a.2 j) x.changes x.before) (mput [] 0 0, []) ⟨rfl, rfl, by simp⟩ (fun k need a hx ⟨i2, i1, i3⟩ => ?_) (fun a _ => ?_)) (fun a ⟨q1, q2⟩ => ?_)
  rotate_right
  · rw [show ((0 : Int), mput [] 0 0, ([] : List setup_stage)) = (((0 : Nat) : Int), mput [] 0 0, ([] : List setup_stage)) from rfl, q1]
    exact ⟨a.2, rfl, q2.2.2⟩
  · have hk := lt_of_get hx
    obtain ⟨hs, hl⟩ := hn need (List.mem_of_getElem? hx)
    have h1 : decide ((k : Int) < (needs.length : Int)) = true := by simp [hk]
    obtain ⟨b, r1, r2⟩ := stage_bef (st := st) (m := a.1) (k : Int) a.2 hs
    unfold setup_stages_l5
    simp only [h1, if_true, idx_of hx, Option.bind_some, bitsOf_ok hs hl, r1]
    rw [app_eq (by simp [LIM]; omega)]
    simp only [Option.bind_some]
    rw [succ_cast k (by omega)]
    have keep : ∀ j ≤ a.2.length, prevM (a.2 ++ [setup_stage.mk b.1 b.2]) j = prevM a.2 j := fun j hj => by
      cases j with
      | zero => rfl
      | succ j => simp only [prevM]; rw [List.getElem?_append_left (by omega)]
    refine ⟨(_, _), rfl, by simp [i2], ?_, fun j x hj => ?_⟩
    · simp only [prevM]
      rw [← i2, List.getElem?_append_right (Nat.le_refl _)]
      simp
    · rcases Nat.lt_or_ge j a.2.length with q | q
      · rw [List.getElem?_append_left q] at hj; rw [keep j (by omega)]; exact i3 j x hj
      · rw [List.getElem?_append_right q] at hj
        have : j = a.2.length := by
          have := (List.getElem?_eq_some_iff.1 hj).1
          simp at this; omega
        subst this
        rw [Nat.sub_self] at hj
        simp at hj; subst hj
        rw [keep _ (Nat.le_refl _), i2, ← i1]
        exact r2
  · unfold setup_stages_l5
    simp
/-- the sets along the stages: what holds from step i on -/
def Along (r : List setup_stage) (S : List Int) (i : Nat) : Prop :=
  (∀ j, i ≤ j → j < r.length → ∃ s v : Nat, ∃ x, S[j]? = some (s : Int) ∧ r[j]? = some x ∧ mfind x.changes (s : Int) = some (v : Int)) ∧
  ∀ j, i ≤ j → j + 1 < r.length → ∃ s b v u : Nat, ∃ x y, r[j + 1]? = some x ∧ r[j]? = some y ∧ S[j + 1]? = some (s : Int) ∧ S[j]? = some (b : Int) ∧ mfind x.changes (s : Int) = some (v : Int) ∧ mfind y.changes (b : Int) = some (u : Int) ∧ v = u + pop (sdiff s b)
theorem set_get (S : List Int) (i j : Nat) (x : Int) (hi : i < S.length) : (S.set i x)[j]? = if i = j then some x else S[j]? := by
  rw [List.getElem?_set]
  by_cases e : i = j
  · subst e; simp [hi]
  · simp [e]
theorem back_ok {st : Int} (hst : 0 ≤ st) {needs : List (List Int)} (hlen : needs.length ≤ 60) {r : List setup_stage} (hr : r.length = needs.length) (hopt : ∀ (k : Nat) x, r[k]? = some x → MapOpt st (needs.take (k + 1)) x.changes)
    (hbef : ∀ (k : Nat) x, r[k]? = some x → BefOk (prevM r k) x.changes x.before) (hex : ∃ s c, Way st needs s c) (h0 : 0 < needs.length) :
    ∃ S : List Int, loopT (setup_Plan_l2 r) (isub (r.length : Int) 1, List.replicate r.length 0) = some S ∧ S.length = r.length ∧ Along r S 0 ∧ ∃ x, r[r.length - 1]? = some x ∧ S[r.length - 1]? = some (bestOf x.changes) := by
  have hrl : 0 < r.length := by omega
  have hsub : isub (r.length : Int) 1 = ((r.length - 1 : Nat) : Int) := by rw [isub_eq (by omega) (by omega)]; omega
  -- the last one
  have hlast : r[r.length - 1]? = some r[r.length - 1] := by simp
  have ho := hopt _ _ hlast
  rw [show r.length - 1 + 1 = needs.length from by omega, List.take_length] at ho
  obtain ⟨s0, c0, w0⟩ := hex
  have hne : r[r.length - 1].changes ≠ [] := by
    intro e
    have := ho.all s0 c0 w0
    rw [e] at this
    cases this
  obtain ⟨v, hv, _⟩ := bestOf_spec ho.ok hne
  have hfind := mfind_mem ho.ok.1 hv
  obtain ⟨sb, cb, e1, e2, _, _⟩ := ho.val _ _ hfind
  -- from step i down
  have down : ∀ (i : Nat) (S : List Int), i < r.length → S.length = r.length → Along r S i → ∃ S', loopT (setup_Plan_l2 r) ((i : Int) - 1, S) = some S' ∧ S'.length = r.length ∧ Along r S' 0 ∧ S'[r.length - 1]? = S[r.length - 1]? := by
    intro i
    induction i with
    | zero =>
      intro S hi hS hA
      exact ⟨S, loop_out (by unfold setup_Plan_l2; simp), hS, hA, rfl⟩
    | succ i ih =>
      intro S hi hS hA
      obtain ⟨s, v, x, q1, q2, q3⟩ := hA.1 (i + 1) (Nat.le_refl _) hi
      have hy : r[i]? = some r[i] := by simp
      obtain ⟨s', b, e1, hs5, hb5, p1, u, p2, p3⟩ := hbef (i + 1) x q2 _ _ q3
      obtain rfl : s = s' := by omega
      have hprev : prevM r (i + 1) = r[i].changes := by simp only [prevM, hy]
      rw [hprev] at p2
      have hoi := hopt i _ hy
      obtain ⟨hu0, hu1⟩ := opt_bound hst hoi (by rw [List.length_take]; omega) p2
      have hpl := pop_le (sdiff s b)
      rw [iadd_eq (by omega) (by omega)] at p3
      have hSi : S[i]? = some S[i] := by simp
      have hstep : setup_Plan_l2 r (((i + 1 : Nat) : Int) - 1, S) = some (.inl ((i : Int) - 1, S.set i (b : Int))) := by
        have g1 : ((i + 1 : Nat) : Int) - 1 = (i : Int) := by omega
        have g2 : ((i : Int) == ((r.length - 1 : Nat) : Int)) = false := by rw [beq_eq_false_iff_ne]; omega
        have g3 : decide ((i : Int) ≥ 0) = true := by rw [decide_eq_true_eq]; omega
        have g4 : isub (i : Int) 1 = (i : Int) - 1 := isub_eq (by omega) (by omega)
        unfold setup_Plan_l2
        simp only [g1, g3, if_true, hsub, g2, Bool.false_eq_true, if_false, succ_cast i (by omega), idx_of q2, Option.bind_some, idx_of q1, idx_of hSi, p1, Option.getD_some, Int.toNat_natCast, setup_Plan_k1, g4]
      rw [loop_in hstep]
      have hil : i < S.length := by omega
      have hA' : Along r (S.set i (b : Int)) i := by
        refine ⟨fun j hj hjr => ?_, fun j hj hjr => ?_⟩
        · by_cases e : i = j
          · subst e
            exact ⟨b, u.toNat, r[i], by rw [set_get _ _ _ _ hil, if_pos rfl], hy, by rw [p2]; congr 1; omega⟩
          · obtain ⟨s2, v2, x2, z1, z2⟩ := hA.1 j (by omega) hjr
            exact ⟨s2, v2, x2, by rw [set_get _ _ _ _ hil, if_neg e]; exact z1, z2⟩
        · by_cases e : i = j
          · subst e
            exact ⟨s, b, v, u.toNat, x, r[i], q2, hy, by rw [set_get _ _ _ _ hil, if_neg (by omega)]; exact q1, by rw [set_get _ _ _ _ hil, if_pos rfl], q3, by rw [p2]; congr 1; omega, by omega⟩
          · obtain ⟨s2, b2, v2, u2, x2, y2, z1, z2, z3, z4, z5⟩ := hA.2 j (by omega) hjr
            exact ⟨s2, b2, v2, u2, x2, y2, z1, z2, by rw [set_get _ _ _ _ hil, if_neg (by omega)]; exact z3, by rw [set_get _ _ _ _ hil, if_neg e]; exact z4, z5⟩
      obtain ⟨S', w1, w2, w3, w4⟩ := ih (S.set i (b : Int)) (by omega) (by rw [List.length_set]; exact hS) hA'
      refine ⟨S', w1, w2, w3, ?_⟩
      rw [w4, set_get _ _ _ _ hil, if_neg (by omega)]
  -- the first step
  have hR : (List.replicate r.length (0 : Int))[r.length - 1]? = some 0 := by rw [List.getElem?_replicate, if_pos (by omega)]
  have hstep : setup_Plan_l2 r (isub (r.length : Int) 1, List.replicate r.length 0) = some (.inl (((r.length - 1 : Nat) : Int) - 1, (List.replicate r.length (0 : Int)).set (r.length - 1) (bestOf r[r.length - 1].changes))) := by
    have g3 : decide (((r.length - 1 : Nat) : Int) ≥ 0) = true := by rw [decide_eq_true_eq]; omega
    have g4 : isub ((r.length - 1 : Nat) : Int) 1 = ((r.length - 1 : Nat) : Int) - 1 := isub_eq (by omega) (by omega)
    unfold setup_Plan_l2
    simp only [hsub, g3, if_true, beq_self_eq_true, idx_of hlast, Option.bind_some, setup_stage_best, bestM_ok ho.ok, idx_of hR, setup_Plan_k1, Int.toNat_natCast, g4]
  rw [loop_in hstep]
  have hil : r.length - 1 < (List.replicate r.length (0 : Int)).length := by rw [List.length_replicate]; omega
  have hA' : Along r ((List.replicate r.length (0 : Int)).set (r.length - 1) (bestOf r[r.length - 1].changes)) (r.length - 1) := by
    refine ⟨fun j hj hjr => ?_, fun j hj hjr => by omega⟩
    obtain rfl : j = r.length - 1 := by omega
    exact ⟨sb, cb, _, by rw [set_get _ _ _ _ hil, if_pos rfl, e1], hlast, by rw [← e1, hfind, e2]⟩
  obtain ⟨S', w1, w2, w3, w4⟩ := down (r.length - 1) _ (by omega) (by simp) hA'
  refine ⟨S', w1, w2, w3, _, hlast, ?_⟩
  rw [w4, set_get _ _ _ _ hil, if_pos rfl]
end Go.SM
