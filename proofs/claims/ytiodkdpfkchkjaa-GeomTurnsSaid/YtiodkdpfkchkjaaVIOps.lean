/- Each operation does what the evaluator says. -/
import Derived.Test.YtiodkdpfkchkjaaVIView
set_option linter.unusedVariables false
set_option linter.unusedSimpArgs false
set_option linter.unusedSectionVars false
namespace Go.VI
open Go.RowKit

theorem ofC_RF (w : World) (S : Nat → Prop) (v : Value) : RF w S (ofC v) v := by
  unfold ofC
  split
  · exact .nl
  · exact .undef _
  · exact .undef _
  · exact .lit _
theorem ofV_RF (w : World) (S : Nat → Prop) (v : Value) : RF w S (ofV v) v := by
  cases v with
  | agg cs =>
    refine .agg _ cs (by simp) fun i pv hg => ?_
    simp only [List.getElem?_map] at hg
    cases hc : cs.toList[i]? with
    | none => simp [hc] at hg
    | some u =>
      simp [hc] at hg
      subst hg
      have : cs.getD i Go.undef = u := by
        rw [Array.getElem?_toList] at hc
        simp [Array.getD_eq_getD_getElem?, hc]
      rw [this]
      exact ofC_RF w S u
  | tuple vs =>
    simp only [ofV]
    split
    · rename_i h
      have : vs = #[] := by simpa using h
      subst this
      exact .lit _
    · exact .undef _
  | func f first caps =>
    simp only [ofV]
    cases f with
    | func f =>
      simp only []
      split
      · rename_i h
        have h1 : first = #[] := by simpa using h.1
        have h2 : caps = #[] := by simpa using h.2
        subst h1 h2
        exact .fn _ [] #[] rfl (by simp)
      · exact .undef _
    | _ => exact ofC_RF w S _
  | _ => simp only [ofV]; exact ofC_RF w S _

section
variable {P : Program} {w0 : Ent} {S0 : Nat → Prop} {N : Nat} {σ : St} {a : Act} {w : World} {c : Ctx}

theorem Inv.ev (h : Inv P w0 S0 N σ a w c) (x : Operand) : RV P w c (pev σ x) (a.eval x) := by
  cases x with
  | tmp t => exact h.slots t
  | const v => exact .free _ _ (ofV_RF w _ v)
  | global g => exact .free _ _ (.undef _)
  | func f => exact .free _ _ (.fn f [] #[] rfl (by simp))

/-- What is to be shown of an operation: it comes to the state σ'. -/
def Does (P : Program) (w0 : Ent) (S0 : Nat → Prop) (N : Nat) (o : Oper) (a : Act) (w : World) (σ' : St) : Prop :=
  ∀ (next : Act → World → Prop) (Q : Exit → Act → World → Prop), (∀ a' w' c', Inv P w0 S0 N σ' a' w' c' → next a' w') → o.wp P a w next Q

theorem does_value {o : Oper} {pv : PV} {v : Value} (h : Inv P w0 S0 N σ a w c) (hd : ∀ k, o.dst = some k → k < N) (hrun : (execOp a.eval o).run P w = .ok (.value v) w) (r : RV P w c pv v) :
    Does P w0 S0 N o a w (Res.put σ o.dst (.val pv)) := by
  intro next Q hn
  unfold Oper.wp
  rw [hrun, Oper.upon_value]
  exact hn _ _ c (h.put o.dst hd r)

/-- Something new under the slot's own tag. -/
theorem does_new {o : Oper} {pv : PV} {v : Value} {w' : World} {c' : Ctx} (h : Inv P w0 S0 N σ a w c) (hd : ∀ k, o.dst = some k → k < N) (hrun : (execOp a.eval o).run P w = .ok (.value v) w')
    (hb : Below w.heap.size w w') (ok : c'.Ok w0.M w') (hs : ∀ b, c'.S b ↔ c.S b)
    (hc : ∀ g k, g ≠ o.dst.getD 0 → c.D g k → c'.D g k ∧ c'.τ g = c.τ g) (r : o.dst ≠ none → RV P w' c' pv v) :
    Does P w0 S0 N o a w (Res.put σ o.dst (.new pv)) := by
  intro next Q hn
  unfold Oper.wp
  rw [hrun, Oper.upon_value]
  have h2 := h.ext hb
  cases hdst : o.dst with
  | none =>
    refine hn _ _ c ?_
    rw [hdst]
    exact h2
  | some d =>
    refine hn _ _ c' ?_
    have keep : ∀ i, RV P w' c' ((σ.map (PV.kill d)).get i) (a.tmps.getD i undef) := fun i => by
      rw [get_map _ rfl]
      refine ((h2.slots i).kill d).keep' (T := fun g => g ≠ d) (fun _ _ => rfl) (fun b hb => (hs b).2 hb) (fun g k hg hgk => ?_) (fun g hg e => ?_)
      · rw [hdst] at hc
        exact ⟨rfl, hc g k hg hgk⟩
      · subst e; rw [has_kill] at hg; cases hg
    have inv1 : Inv P w0 S0 N (σ.map (PV.kill d)) a w' c' := ⟨h2.below, ok, fun b hb => (hs b).2 (h.sub b hb), fun b hb => h.sup b ((hs b).1 hb), keep, h.size, h.defers⟩
    rw [hdst]
    exact inv1.put (some d) (by rw [← hdst]; exact hd) (r (by simp [hdst]))

/-- What is there is turned. -/
theorem does_mut {o : Oper} {f : PV → PV} {pv : PV} {v : Value} {w' : World} {c' : Ctx} (h : Inv P w0 S0 N σ a w c) (hd : ∀ k, o.dst = some k → k < N)
    (hrun : (execOp a.eval o).run P w = .ok (.value v) w' ∨ ((execOp a.eval o).run P w = .ok .skip w' ∧ v = undef))
    (hb : w0.Fr w') (ok : c'.Ok w0.M w') (hs : ∀ b, c'.S b ↔ c.S b) (hf : f .undef = .undef)
    (keep : ∀ pv v, RV P w c pv v → RV P w' c' (f pv) v) (r : RV P w' c' pv v) :
    Does P w0 S0 N o a w (Res.put σ o.dst (.mut f pv)) := by
  intro next Q hn
  unfold Oper.wp
  have inv1 : Inv P w0 S0 N (σ.map f) a w' c' := ⟨hb, ok, fun b hb => (hs b).2 (h.sub b hb), fun b hb => h.sup b ((hs b).1 hb),
    fun i => by rw [get_map f hf]; exact keep _ _ (h.slots i), h.size, h.defers⟩
  have fin : next (a.put o.dst v) w' := by
    refine hn _ _ c' ?_
    have := inv1.put o.dst hd r
    cases hdst : o.dst <;> (rw [hdst] at this; exact this)
  rcases hrun with hrun | ⟨hrun, rfl⟩
  · rw [hrun, Oper.upon_value]; exact fin
  · rw [hrun, Oper.upon_skip]; exact fin

/-! ### runs of the model -/
theorem run_isAgg {t : TypeId} {b : Bool} (h : tAgg P t = some b) (w : World) : (isAgg t).run P w = .ok b w := by
  unfold tAgg at h
  unfold isAgg
  cases hu : P.underlying t with
  | none => simp [hu] at h
  | some d =>
    rw [hu] at h
    simp only [Sem.run_bind, run_underlying hu, Result.andThen_ok]
    cases d <;> simp at h <;> subst h <;> rfl
theorem info_of_agg {t : TypeId} {b : Bool} (h : tAgg P t = some b) : ∃ i, P.info? t = some i := by
  unfold tAgg Program.underlying at h
  cases hi : P.info? t with
  | none => simp [hi] at h
  | some i => exact ⟨i, rfl⟩
theorem run_sizeOf {t : TypeId} (h : ∃ i, P.info? t = some i) (w : World) : (sizeOf t).run P w = .ok (tSize P t) w := by
  obtain ⟨i, hi⟩ := h
  simp [sizeOf, typeInfo, hi, tSize, Program.cellsOf]
theorem run_loadCellsFrom (ad : Addr) (n : Nat) : ∀ (i : Nat) (acc : Array Value) (vf : Nat → Value), (∀ j, j < n → w.cell? (ad.add (i + j)) = some (vf j)) →
    (loadCellsFrom ad i n acc).run P w = .ok (acc ++ ((List.range n).map vf).toArray) w := by
  induction n with
  | zero => intro i acc vf _; simp [loadCellsFrom]
  | succ n ih =>
    intro i acc vf h
    have h0 : w.cell? (ad.add i) = some (vf 0) := h 0 (by omega)
    simp only [loadCellsFrom, Sem.run_bind, load, Sem.run, h0, Result.andThen_ok]
    rw [ih (i + 1) (acc.push (vf 0)) (fun j => vf (j + 1)) (fun j hj => by have := h (j + 1) (by omega); rwa [show i + 1 + j = i + (j + 1) from by omega])]
    simp [List.range_succ_eq_map, Function.comp_def]
theorem run_loadVar_agg {t : TypeId} (h : tAgg P t = some true) (ad : Addr) (vf : Nat → Value) (hc : ∀ j, j < tSize P t → w.cell? (ad.add j) = some (vf j)) :
    (loadVar t ad).run P w = .ok (.agg ((List.range (tSize P t)).map vf).toArray) w := by
  simp only [loadVar, Sem.run_bind, run_isAgg h, Result.andThen_ok, if_true, run_sizeOf (info_of_agg h), loadCells]
  rw [run_loadCellsFrom ad (tSize P t) 0 #[] vf (by simpa using hc)]
  simp
theorem run_loadVar_cell {t : TypeId} (h : tAgg P t = some false) (ad : Addr) {v : Value} (hc : w.cell? ad = some v) : (loadVar t ad).run P w = .ok v w := by
  simp [loadVar, Sem.run_bind, run_isAgg h, Result.andThen_ok, load, Sem.run, hc]

theorem range?_some {cs l : List PV} {off n : Nat} (h : range? cs off n = some l) : off + n ≤ cs.length ∧ l.length = n ∧ ∀ i pv, l[i]? = some pv → cs[off + i]? = some pv := by
  unfold range? at h
  split at h
  · rename_i hh
    injection h with h
    subst h
    refine ⟨hh, by simp; omega, fun i pv hg => ?_⟩
    rw [List.getElem?_take] at hg
    split at hg
    · rwa [List.getElem?_drop] at hg
    · cases hg
  · cases h

/-- From the cells at an address to what is loaded. -/
theorem load_ok {t : TypeId} {agg : Bool} (hagg : tAgg P t = some agg) {cs : List PV} {off : Nat} {pv : PV} (ad : Addr) (vf : Nat → Value)
    (hc : ∀ (i : Nat) p, cs[i]? = some p → w.cell? (ad.add i) = some (vf i) ∧ RV P w c p (vf i)) (h : (if agg then (range? cs off (tSize P t)).map PV.agg else cs[off]?) = some pv) :
    ∃ v, (loadVar t (ad.add off)).run P w = .ok v w ∧ RV P w c pv v := by
  cases agg with
  | true =>
    simp only [if_true] at h
    cases hr : range? cs off (tSize P t) with
    | none => simp [hr] at h
    | some l =>
      simp [hr] at h
      subst h
      obtain ⟨h1, h2, h3⟩ := range?_some hr
      have get : ∀ j, j < tSize P t → ∃ p, cs[off + j]? = some p := fun j hj => ⟨cs[off + j]'(by omega), List.getElem?_eq_getElem (by omega)⟩
      refine ⟨_, run_loadVar_agg hagg _ (fun j => vf (off + j)) (fun j hj => ?_), .agg l _ (by simp [h2]) fun i p hg => ?_⟩
      · obtain ⟨p, hp⟩ := get j hj
        rw [add_add]; exact (hc _ p hp).1
      · have hi : i < tSize P t := by
          rcases Nat.lt_or_ge i l.length with hh | hh
          · omega
          · rw [List.getElem?_eq_none hh] at hg; cases hg
        have hv : (((List.range (tSize P t)).map fun j => vf (off + j)).toArray).getD i Go.undef = vf (off + i) := by simp [hi]
        rw [hv]
        exact (hc _ p (h3 i p hg)).2
  | false =>
    simp only [Bool.false_eq_true, if_false] at h
    exact ⟨_, run_loadVar_cell hagg _ (hc _ pv h).1, (hc _ pv h).2⟩

/-- What a pointer leads to. -/
theorem ptr_cells {p : PV} {v : Value} (r : RV P w c p v) : match p with
    | .ptr _ cs off => ∃ ad : Addr, ∃ vf : Nat → Value, v = .pointer (some (ad.add off)) ∧ ∀ (i : Nat) q, cs[i]? = some q → w.cell? (ad.add i) = some (vf i) ∧ RV P w c q (vf i)
    | .vptr cs off => ∃ ad : Addr, ∃ vf : Nat → Value, v = .pointer (some (ad.add off)) ∧ ∀ (i : Nat) q, cs[i]? = some q → w.cell? (ad.add i) = some (vf i) ∧ RV P w c q (vf i)
    | .optr _ _ es i off => ∀ cs, es[i]? = some cs → ∃ ad : Addr, ∃ vf : Nat → Value, v = .pointer (some (ad.add off)) ∧ ∀ (i : Nat) q, cs[i]? = some q → w.cell? (ad.add i) = some (vf i) ∧ RV P w c q (vf i)
    | _ => True := by
  cases r with
  | free pv v h =>
    cases h with
    | vptr cs off ad vf hS hcell hr => exact ⟨ad, vf, rfl, fun i q hg => ⟨hcell i q hg, .free _ _ (hr i q hg)⟩⟩
    | _ => trivial
  | own => trivial
  | agg => trivial
  | tup => trivial
  | fn => trivial
  | ptr g cs off vs T hb hh hn hr =>
    refine ⟨⟨c.τ g, 0, none⟩, fun j => vs.getD j undef, by rw [add_lit]; simp, fun i q hg => ⟨?_, hr i q hg⟩⟩
    have hj : i < cs.length := by
      rcases Nat.lt_or_ge i cs.length with h | h
      · exact h
      · rw [List.getElem?_eq_none h] at hg; cases hg
    rw [add_lit, cell_of_row w (c.τ g) (0 + i) vs T (0, 0) hh, Nat.zero_add]
    exact getD_lt (by omega)
  | optr g e es i off xs cap hk0 hk ho hb h1 hr =>
    intro cs hcs
    refine ⟨⟨c.τ g, i * tSize P e, none⟩, fun j => xs.getD (i * tSize P e + j) undef, by rw [add_lit], fun j q hg => ?_⟩
    have hgE : getE es i j = some q := by unfold getE; rw [hcs]; exact hg
    have hlt := getE_lt hk hgE
    refine ⟨?_, .free _ _ (hr i j q hgE)⟩
    have := own_cells ho rfl (i * tSize P e + j) (idx_lt hlt.1 hlt.2)
    rw [add_lit] at this ⊢
    rwa [Nat.zero_add] at this

theorem pload_ok {t : TypeId} {agg : Bool} (hagg : tAgg P t = some agg) {p pv : PV} {v : Value} (r : RV P w c p v) (h : pload agg (tSize P t) p = some pv) :
    ∃ u, (Instr.loadAt t v).run P w = .ok u w ∧ RV P w c pv u := by
  have hc := ptr_cells r
  unfold pload at h
  cases p with
  | ptr g cs off =>
    obtain ⟨ad, vf, rfl, hc⟩ := hc
    simpa [Instr.loadAt, Instr.sureAddr] using load_ok hagg ad vf hc h
  | vptr cs off =>
    obtain ⟨ad, vf, rfl, hc⟩ := hc
    simpa [Instr.loadAt, Instr.sureAddr] using load_ok hagg ad vf hc h
  | optr g e es i off =>
    cases he : es[i]? with
    | none => simp [he] at h
    | some cs =>
      simp only [he] at h
      obtain ⟨ad, vf, rfl, hc2⟩ := hc cs he
      simpa [Instr.loadAt, Instr.sureAddr] using load_ok hagg ad vf hc2 h
  | _ => simp at h
end
end Go.VI
