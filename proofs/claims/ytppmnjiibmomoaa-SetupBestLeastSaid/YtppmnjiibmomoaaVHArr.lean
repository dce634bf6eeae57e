/- Great arrays of integers in boxes. -/
import Derived.Test.YtppmnjiibmomoaaVHJoin
set_option linter.unusedVariables false
set_option linter.unusedSimpArgs false
set_option linter.unusedSectionVars false
namespace Go.VI
open Go.RowKit
section
variable {G : Prg} {ops : Array Oper} {k : Nat} {σ : St} {l l2 : List Int} {g : Nat}
theorem st_paxB {n sz : Nat} {kd : IntKind} {i : Int} {p q : PV} (h : paxAt G ops k σ = some (n, sz, p, .lit (.int kd i))) (hb : (decide ((0 : Int) ≤ i) && decide (i < (n : Int))) = true) (hq : padd (i.toNat * sz) p = some q) : stepAt G ops k σ = some (.val q) := by
  simp only [Bool.and_eq_true, decide_eq_true_eq] at hb
  exact st_pax h hb.1 hb.2 hq
theorem st_ald {i x : Int} (h : ldAt G ops k σ = some (false, 1, .ptr g (0 + i.toNat * 1))) (hg : σ.h.get g = some (.box (l.map vI))) (hx : idx l i = some x) : stepAt G ops k σ = some (.val (vI x)) := by
  refine ldAt_spec h ?_
  simp only [pload, hg, Nat.zero_add, Nat.mul_one, List.getElem?_map, (idxS hx).2, Option.map_some, Bool.false_eq_true, if_false]
theorem setAt_one (cs : List PV) (off : Nat) (v : PV) : setAt cs off [v] = cs.set off v := rfl
theorem st_ast {i x y : Int} (h : stAt G ops k σ = some (false, 1, .ptr g (0 + i.toNat * 1), vI y)) (hg : σ.h.get g = some (.box (l.map vI))) (hx : idx l i = some x) : stepAt G ops k σ = some ⟨[], [(g, .box ((l.set i.toNat y).map vI))], .lit undef⟩ := by
  refine stAt_spec h ?_
  have hl := (List.getElem?_eq_some_iff.1 (idxS hx).2).1
  have h1 : (vI y).cells = [vI y] := rfl
  have h2 : (vI y).isAgg = false := rfl
  have h3 : [vI y].all PV.cell = true := rfl
  simp only [pstore, h1, h2, hg, Nat.zero_add, Nat.mul_one, List.length_singleton, and_self, if_true, List.length_map]
  rw [if_pos ⟨by omega, h3⟩, setAt_one, List.map_set]
theorem setAt_all : ∀ (vs cs pre : List PV), vs.length = cs.length → setAt (pre ++ cs) pre.length vs = pre ++ vs
  | [], cs, pre, h => by
    have : cs = [] := List.eq_nil_of_length_eq_zero (by simpa using h.symm)
    subst this; rfl
  | v :: vs, [], pre, h => by simp at h
  | v :: vs, c :: cs, pre, h => by
    simp only [setAt]
    have e : (pre ++ c :: cs).set pre.length v = (pre ++ [v]) ++ cs := by
      rw [List.set_append_right _ _ (Nat.le_refl _)]; simp
    rw [e]
    have := setAt_all vs cs (pre ++ [v]) (by simpa using h)
    rw [List.length_append, List.length_singleton] at this
    rw [this]; simp
theorem st_aldW {n : Nat} (h : ldAt G ops k σ = some (true, n, .ptr g 0)) (hg : σ.h.get g = some (.box (l.map vI))) (hl : ((l.length : Int) == (n : Int)) = true) : stepAt G ops k σ = some (.val (.agg (l.map vI))) := by
  have hl' : l.length = n := by rw [beq_iff_eq] at hl; omega
  refine ldAt_spec h ?_
  simp only [pload, hg, range?, if_true, Nat.zero_add, List.length_map, hl', Nat.le_refl, List.drop_zero, Option.map_some]
  rw [List.take_of_length_le (by simp [hl'])]
theorem all_vI (l : List Int) : (l.map vI).all PV.cell = true := by
  rw [List.all_eq_true]
  intro v hv
  obtain ⟨x, _, rfl⟩ := List.mem_map.1 hv
  rfl
theorem st_astW {n : Nat} (h : stAt G ops k σ = some (true, n, .ptr g 0, .agg (l2.map vI))) (hg : σ.h.get g = some (.box (l.map vI))) (hl : (((l.length : Int) == (n : Int)) && ((l2.length : Int) == (n : Int))) = true) : stepAt G ops k σ = some ⟨[], [(g, .box (l2.map vI))], .lit undef⟩ := by
  simp only [Bool.and_eq_true, beq_iff_eq] at hl
  have h0 : l.length = n ∧ l2.length = n := by omega
  refine stAt_spec h ?_
  have h2 : (PV.agg (l2.map vI)).isAgg = true := rfl
  have h1 : (PV.agg (l2.map vI)).cells = l2.map vI := rfl
  simp only [pstore, h1, h2, hg, List.length_map, h0.2, h0.1, and_self, if_true, Nat.zero_add, Nat.le_refl, true_and]
  rw [if_pos (all_vI l2)]
  have := setAt_all (l2.map vI) (l.map vI) [] (by simp [h0])
  simp only [List.nil_append, List.length_nil] at this
  rw [this]
theorem del_nil : ∀ h : HP, h.del [] = h
  | [] => rfl
  | (g, o) :: h => by simp only [HP.del, TL.inn, Option.isSome_none, Bool.false_eq_true, if_false, del_nil h]
theorem hkill_no : ∀ h : HP, h.kill noKey = h
  | [] => rfl
  | (g, o) :: h => by simp only [HP.kill, noKey, Bool.false_eq_true, if_false]; rw [show o.kill noKey = o from kill_no o] at *; rw [show HP.kill noKey h = h from hkill_no h]
theorem smap_kill_no : ∀ s : SL, s.map (PV.kill noKey) = s
  | [] => rfl
  | (i, v) :: s => by simp only [SL.map, kill_free noKey v (has_no v), smap_kill_no s]
theorem after_nil (σ : St) : after ([] ++ []) (([].filter fun (x : Nat × Nat) => Nat.ble PIN x.1).map (·.2)) σ [] = σ := by
  have e : gone ([] ++ []) (([].filter fun (x : Nat × Nat) => Nat.ble PIN x.1).map (·.2)) = noKey := by
    funext k; simp [gone, noKey, TL.inn]
  unfold after
  rw [e]
  simp only [St.kill, HP.ren, List.nil_append, del_nil, hkill_no, smap_kill_no]
/-- a call that hands nothing over and lays nothing anew -/
theorem evs_callP {Q : St → Prop} (vis : List Nat) {f : Nat} {qs : List PV} {r : PV} (hc : callQ ops k σ [] vis = some (f, qs)) (pc : PC G.P f qs [] r []) (ht : tagsOk [] [] vis = true) (ind : vis = [] ∨ r.ind = true) (hr : r.ren [] = r)
    (next : EVS G ops (k + 1) (setO σ (dstAt ops k) r) Q) : EVS G ops k σ Q :=
  evs_callS [] [] vis hc pc ht rfl (ind.imp id fun q => ⟨q, fun _ _ h => nomatch h⟩) (by rw [after_nil, show r.ren ([] ++ []) = r from hr]; exact next)
theorem evo_callP {Q : St → Prop} (vis : List Nat) {f : Nat} {qs : List PV} {r : PV} (hc : callQ ops k σ [] vis = some (f, qs)) (pc : PC G.P f qs [] r []) (ht : tagsOk [] [] vis = true) (ind : vis = [] ∨ r.ind = true) (hr : r.ren [] = r)
    (next : EVO G ops (k + 1) (setO σ (dstAt ops k) r) Q) : EVO G ops k σ Q :=
  evo_callS [] [] vis hc pc ht rfl (ind.imp id fun q => ⟨q, fun _ _ h => nomatch h⟩) (by rw [after_nil, show r.ren ([] ++ []) = r from hr]; exact next)
/-- forgets keys, but leaves the array g as it is -/
def HP.killX (g : Nat) (p : Key → Bool) : HP → HP
  | [] => []
  | (q, o) :: h => if p (.top q) = true then HP.killX g p h else (q, if Nat.beq q g = true then o else o.kill p) :: HP.killX g p h
theorem kill_arr (p : Key → Bool) (l : List Int) : (HO.box (l.map vI)).kill p = .box (l.map vI) := by
  simp only [HO.kill]
  congr 1
  induction l with
  | nil => rfl
  | cons x l ih => simp only [List.map_cons, PV.killL, ih]; rfl
theorem killX_get {g : Nat} {l : List Int} {p : Key → Bool} : ∀ {h : HP}, h.get g = some (.box (l.map vI)) → ∀ q, (h.killX g p).get q = (h.kill p).get q
  | [], hg, q => rfl
  | (q0, o) :: h, hg, q => by
    simp only [HP.killX, HP.kill]
    by_cases e : g = q0
    · subst e
      simp only [HP.get, Nat.beq_refl, if_true, Option.some.injEq] at hg
      subst hg
      have tail : ∀ (h : HP), p (.top g) = true → ∀ q, (h.killX g p).get q = (h.kill p).get q := by
        intro h hp
        induction h with
        | nil => intro q; rfl
        | cons x h ih =>
          obtain ⟨q1, o1⟩ := x
          intro q
          simp only [HP.killX, HP.kill]
          split
          · exact ih q
          · rename_i h1
            have : Nat.beq q1 g = false := by
              cases hb : Nat.beq q1 g with
              | false => rfl
              | true => rw [Nat.eq_of_beq_eq_true hb] at h1; exact absurd hp h1
            rw [this]
            simp only [HP.get, Bool.false_eq_true, if_false, ih q]
      have tail2 : ∀ (h : HP), ∀ q, q ≠ g → (h.killX g p).get q = (h.kill p).get q := by
        intro h
        induction h with
        | nil => intro q _; rfl
        | cons x h ih =>
          obtain ⟨q1, o1⟩ := x
          intro q hq
          simp only [HP.killX, HP.kill]
          split
          · exact ih q hq
          · by_cases e1 : q1 = g
            · subst e1
              simp only [HP.get, beq_ff hq, Bool.false_eq_true, if_false, ih q hq]
            · simp only [beq_ff e1, Bool.false_eq_true, if_false, HP.get, ih q hq]
      split
      · rename_i hp; exact tail h hp q
      · simp only [Nat.beq_refl, if_true, kill_arr, HP.get]
        by_cases e2 : q = g
        · subst e2; simp
        · simp only [beq_ff e2, Bool.false_eq_true, if_false]; exact tail2 h q e2
    · simp only [HP.get, beq_ff e, Bool.false_eq_true, if_false] at hg
      have ih := killX_get (p := p) hg
      split
      · exact ih q
      · simp only [beq_ff (Ne.symm e), Bool.false_eq_true, if_false, HP.get, ih q]
/-- something new beside an array -/
theorem evs_new1 {K : St → Prop} {d : Nat} {ob : HO} {v : PV} (h : stepAt G ops k σ = some (.new d ob v)) (hg : σ.h.get g = some (.box (l.map vI))) (next : EVS G ops (k + 1) (setO ⟨(d, .undef) :: σ.s.map (PV.kill (ofTag d)), (d, ob) :: σ.h.killX g (ofTag d)⟩ (dstAt ops k) v) K) : EVS G ops k σ K := by
  refine evs_op h (evs_sub ⟨fun i => ?_, fun q o hq => ?_⟩ next)
  · cases hd : dstAt ops k with
    | none =>
      simp only [setO, Res.put, Res.new, Res.base, List.foldl_cons, List.foldl_nil]
      show SL.get _ i = .undef ∨ SL.get _ i = SL.get _ i
      simp only [SL.get]
      split
      · exact .inl rfl
      · exact .inr rfl
    | some d' =>
      simp only [setO, Res.put, Res.new, Res.base, List.foldl_cons, List.foldl_nil, get_set]
      split
      · exact .inr rfl
      · show SL.get _ i = .undef ∨ SL.get _ i = SL.get _ i
        simp only [SL.get]
        split
        · exact .inl rfl
        · exact .inr rfl
  · have e1 : (setO ⟨(d, .undef) :: σ.s.map (PV.kill (ofTag d)), (d, ob) :: σ.h.killX g (ofTag d)⟩ (dstAt ops k) v).hget q = HP.get ((d, ob) :: σ.h.killX g (ofTag d)) q := by cases dstAt ops k <;> rfl
    have e2 : (Res.put σ (dstAt ops k) (.new d ob v)).hget q = HP.get ((d, ob) :: σ.h.kill (ofTag d)) q := by cases dstAt ops k <;> rfl
    rw [e1] at hq
    rw [e2]
    simp only [HP.get] at hq ⊢
    rw [← killX_get hg]
    exact hq
/-- these objects are arrays -/
def arrOk : List (Nat × List Int) → HP → Prop
  | [], _ => True
  | (g, l) :: A, h => h.get g = some (.box (l.map vI)) ∧ arrOk A h
def inA (A : List (Nat × List Int)) (t : Nat) : Bool := A.any fun x => Nat.beq x.1 t
theorem arrOk_get {h : HP} : ∀ {A : List (Nat × List Int)}, arrOk A h → ∀ t, inA A t = true → ∃ l : List Int, h.get t = some (.box (l.map vI))
  | [], _, t, ht => by simp [inA] at ht
  | (g, l) :: A, ha, t, ht => by
    simp only [inA, List.any_cons, Bool.or_eq_true] at ht
    rcases ht with q | q
    · have := Nat.eq_of_beq_eq_true q; subst this; exact ⟨l, ha.1⟩
    · exact arrOk_get ha.2 t q
theorem ren_arr (R : TL) (l : List Int) : (HO.box (l.map vI)).ren R = .box (l.map vI) := by
  simp only [HO.ren]
  congr 1
  induction l with
  | nil => rfl
  | cons x l ih => simp only [List.map_cons, PV.renL, ih]; rfl
/-- new tags; the arrays A are left as they are -/
def HP.renX (A : List (Nat × List Int)) (R : TL) : HP → HP
  | [] => []
  | (t, o) :: h => match R.out t with
    | some g => (g, if inA A t = true then o else o.ren R) :: HP.renX A R h
    | none => HP.renX A R h
theorem renX_get {A : List (Nat × List Int)} {R : TL} (q : Nat) : ∀ h : HP, (∀ t, inA A t = true → R.out t = some q → ∃ l : List Int, HP.get h t = some (.box (l.map vI))) → (HP.renX A R h).get q = (HP.ren R h).get q
  | [], _ => rfl
  | (t, o) :: h, ha => by
    have tail : (∀ g, R.out t = some g → g ≠ q) → ∀ t', inA A t' = true → R.out t' = some q → ∃ l : List Int, HP.get h t' = some (.box (l.map vI)) := fun hne t' h1 h2 => by
      obtain ⟨l, hl⟩ := ha t' h1 h2
      have : t' ≠ t := by rintro rfl; exact hne q h2 rfl
      simp only [HP.get, beq_ff this, Bool.false_eq_true, if_false] at hl
      exact ⟨l, hl⟩
    simp only [HP.renX, HP.ren]
    cases hr : R.out t with
    | none => exact renX_get q h (tail (by rw [hr]; intro g hg; cases hg))
    | some g =>
      simp only [HP.get]
      by_cases e : q = g
      · subst e
        simp only [Nat.beq_refl, if_true]
        split
        · rename_i hin
          obtain ⟨l, hl⟩ := ha t hin hr
          simp only [HP.get, Nat.beq_refl, if_true, Option.some.injEq] at hl
          rw [hl, ren_arr]
        · rfl
      · simp only [beq_ff e, Bool.false_eq_true, if_false]
        exact renX_get q h (tail (by rw [hr]; intro g' hg'; injection hg' with hg'; subst hg'; exact fun q' => e q'.symm))
def St.renX (A : List (Nat × List Int)) (R : TL) (σ : St) : St := ⟨(σ.ren R).s, σ.h.renX A R⟩
theorem subR_prepX {P : Program} (A : List (Nat × List Int)) (l : List Prep) (R : TL) {X σe : St} (hp : (X.prep P l).isSome = true) (h1 : R.okB = true) (h2 : pinOk R = true) (ha : arrOk A (X.prepD P l).h) (h : atS σe ((X.prepD P l).renX A R) = asS σe) : SubR P σe X := by
  obtain ⟨σ1, hs⟩ := Option.isSome_iff_exists.1 hp
  have e : X.prepD P l = σ1 := by unfold St.prepD; rw [hs]; rfl
  rw [e] at ha h
  intro E S0 N a w c hi0
  obtain ⟨c0, hi⟩ := (subR_prepL hs) hi0
  obtain ⟨c', hi'⟩ := hi.ren h1 h2
  have hsub : Sub (σ1.renX A R) (σ1.ren R) := ⟨fun i => .inr rfl, fun q o hq => by
    show HP.get (HP.ren R σ1.h) q = some o
    rw [← renX_get (A := A) q σ1.h fun t ht _ => arrOk_get ha t ht]
    exact hq⟩
  exact ⟨c', sub_inv (sub_map h) (sub_inv hsub hi')⟩
theorem killT_nil (σ : St) : σ.kill (killT []) = σ := by
  have e : killT [] = noKey := by funext k; simp [killT, noKey]
  rw [e]
  simp only [St.kill, hkill_no, smap_kill_no]
/-- a region that draws its order and lays nothing anew -/
theorem sem_drawP {cd : Code} {K : PX → St → Prop} (σj : St) (T F rd av fv : List (Nat × List Nat)) (m : Nat) (hk : knd cd = 2) (hok : drawOk (cOps cd) T F rd av fv m = true) (hF : F.all (fun x => inL x.2 []) = true)
    (h : EVD G (cOps cd) ⟨lst T, lst F, lst rd, lst av, lst fv⟩ m 0 σ fun σ' => EVO G (cOps cd) m σ' (fun τ => SubR G.P σj τ)) (next : ∀ τ, SubR G.P σj τ → K .normal τ) : SEM G cd σ K :=
  sem_drawC σj T F rd av fv m hk hok [] rfl hF (by rw [killT_nil]; exact h) next
end
end Go.VI
