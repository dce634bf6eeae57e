/- Slices held against nil; slices written out to be one's own. -/
import Derived.Test.YtppmnjiibmomoaaVHRange
import Derived.Test.YtppmnjiibmomoaaVHBits
set_option linter.unusedVariables false
set_option linter.unusedSimpArgs false
set_option linter.unusedSectionVars false
namespace Go.VI
open Go.RowKit

section
variable {P : Program} {E : Ent} {S0 : Nat → Prop} {N : Nat} {σ : St} {a : Act} {w : World} {c : Ctx}
theorem run_isnil {t : TypeId} {A : Option Addr} {n cc : Nat} {e : TypeId} (ht : tElem P t = some e) : (binOp .eql t (.slice A n cc) (.slice none 0 0)).run P w = .ok (.bool A.isNone) w := by
  have hu := tElem_some ht
  have : (Op.equal t (.slice A n cc) (.slice none 0 0)).run P w = .ok A.isNone w := by
    unfold Op.equal
    show (Op.equalIn (9999 + 1) t _ _).run P w = _
    unfold Op.equalIn
    cases A <;> simp only [Sem.run_bind, run_underlying hu, Result.andThen_ok, Sem.run_pure] <;> rfl
  simp only [binOp, Sem.run_bind, this, Result.andThen_ok, Sem.run_pure]
theorem isnil_ok {o : Oper} {t t' : TypeId} {x : Operand} {e : TypeId} {es : List (List PV)} (ho : o.op = .binOp .eql t x (.const (.slice none 0 0)) t') (ht : tElem P t = some e) (hx : pev σ x = .sl es) (h : Inv P E S0 N σ a w c) (hd : ∀ k, o.dst = some k → k < N) :
    ∃ b : Bool, (b = true → es = []) ∧ Does P E S0 N o a w (Res.put σ o.dst (.val (.lit (.bool b)))) := by
  have rx := h.ev x
  rw [hx] at rx
  obtain ⟨A, n, cc, hX, hA⟩ : ∃ A n cc, a.eval x = .slice A n cc ∧ (A.isNone = true → es = []) := by
    generalize a.eval x = X at rx
    cases rx with
    | free _ _ hf => cases hf with
      | sl _ k A n cc vf hn hk hk0 hc ha =>
        refine ⟨A, n, cc, rfl, fun hq => ?_⟩
        rcases es with _ | ⟨y, ys⟩
        · rfl
        · obtain ⟨ad, h1, _⟩ := ha (by simp)
          rw [h1] at hq; cases hq
  refine ⟨A.isNone, hA, does_value h hd ?_ (.free _ _ (.lit _))⟩
  unfold execOp
  have hg : (eqGuard .eql t x (.const (.slice none 0 0)) (.slice A n cc) (.slice none 0 0)).run P w = .ok () w := by
    unfold eqGuard; rfl
  have hY : a.eval (.const (.slice none 0 0)) = .slice none 0 0 := rfl
  simp only [ho, hX, hY, Sem.run_bind, hg, run_isnil ht, Result.andThen_ok, Sem.run_pure]
def PV.softc : PV → PV
  | .nl => .sl []
  | v => v
theorem softc_cell {l : List PV} (h : (l.map PV.softc).all PV.still = true) : l.all PV.cell = true := by
  rw [List.all_eq_true] at h ⊢
  intro v hv
  have := h _ (List.mem_map.2 ⟨v, hv, rfl⟩)
  cases v <;> first | rfl | (simp [PV.softc, PV.still] at this; done) | exact this
theorem softc_RF {pv : PV} {v : Value} (r : RV P w c pv v) (h : (PV.softc pv).still = true) : RF w c.S (PV.softc pv) v := by
  have key : pv = .nl ∨ (PV.softc pv = pv) := by cases pv <;> first | exact .inl rfl | exact .inr rfl
  rcases key with rfl | e
  · rw [r.nl_eq]; exact RF.sl_nil w _
  · rw [e] at h ⊢; exact r.toRF (still_free h)
/-- A slice written out, nil slices in it. -/
theorem buildS_ok {o : Oper} {t e : TypeId} {len : Nat} {parts : Array (Nat × Operand)} (ho : o.op = .buildSlice t len parts) (ht : tElem P t = some e) (hidx : parts.toList.map (·.1) = List.range len) (hk : 0 < tSize P e) (hlim : len * tSize P e ≤ 16777216)
    (hrow : tRow P e = true) (hall : (parts.toList.all fun p => (pev σ p.2).cells.length == tSize P e && ((pev σ p.2).cells.map PV.softc).all PV.still) = true) (h : Inv P E S0 N σ a w c) (hd : ∀ k, o.dst = some k → k < N) :
    Does P E S0 N o a w (Res.put σ o.dst (.val (.sl (parts.toList.map fun p => (pev σ p.2).cells.map PV.softc)))) := by
  obtain ⟨i, z, hi, hz, hsz, hby, hzs, hsize⟩ := tRow_some hrow
  have hlen : parts.toList.length = len := by have := congrArg List.length hidx; simpa using this
  -- the cells
  let cells : List Value := parts.toList.flatMap fun p => (a.eval p.2).cells.toList
  have each : ∀ p ∈ parts.toList, (pev σ p.2).cells.length = tSize P e ∧ ((pev σ p.2).cells.map PV.softc).all PV.still = true := fun p hp => by
    have := List.all_eq_true.1 hall p hp
    simpa using this
  have rep : ∀ p ∈ parts.toList, (a.eval p.2).cells.size = tSize P e ∧ ∀ (j : Nat) pv, ((pev σ p.2).cells.map PV.softc)[j]? = some pv → RF w c.S pv ((a.eval p.2).cells.getD j undef) ∧ ((a.eval p.2).cells.getD j undef).oneCell' = true := fun p hp => by
    obtain ⟨q1, q2⟩ := each p hp
    obtain ⟨q3, q4⟩ := (h.ev p.2).cells (softc_cell q2)
    refine ⟨by omega, fun j pv hg => ?_⟩
    rw [List.getElem?_map] at hg
    cases hq : (pev σ p.2).cells[j]? with
    | none => rw [hq] at hg; cases hg
    | some pv0 =>
      rw [hq] at hg
      simp only [Option.map_some, Option.some.injEq] at hg
      subst hg
      have hst : (PV.softc pv0).still = true := List.all_eq_true.1 q2 _ (List.mem_map.2 ⟨pv0, List.mem_of_getElem? hq, rfl⟩)
      exact ⟨softc_RF (q4 j pv0 hq).1 hst, (q4 j pv0 hq).2⟩
  have hrun : (Instr.buildSlice t len (parts.map fun p => (p.1, a.eval p.2))).run P w = .ok (.slice (some ⟨w.heap.size, 0, none⟩) len len) (w.alloc (.cells cells.toArray e)) := run_buildSlice ht hidx hk hlim hrow fun p hp => (rep p hp).1
  have hexec : (execOp a.eval o).run P w = .ok (.value (.slice (some ⟨w.heap.size, 0, none⟩) len len)) (w.alloc (.cells cells.toArray e)) := by
    unfold execOp
    simp only [ho, Sem.run_bind, hrun, Result.andThen_ok, Sem.run_pure]
  have hb : Below w.heap.size w (w.alloc (.cells cells.toArray e)) := (Below.refl _ _).alloc (Nat.le_refl _) _
  have inv' := (h.ext hb).more (fun b => c.S b ∨ b = w.heap.size) (fun b hb => .inl hb) (fun b hb' => by rcases hb' with q | q; exact Nat.lt_of_lt_of_le (h.ok.hS b q) hb.size; simp [q]) (fun b hb' => by rcases hb' with q | q; exact h.sup b q; exact .inr (by rw [q]; exact h.below.mine (Nat.le_refl _)))
    (fun k hg hb' => by rcases hb' with q | q; exact (h.ok.hD k hg).2.2 q; have := (h.ok.hD k hg).2.1; omega)
  refine does_mut hd (.inl hexec) inv' (.free _ _ ?_)
  have hsz : ∀ p ∈ parts.toList, (a.eval p.2).cells.toList.length = tSize P e := fun p hp => by simpa using (rep p hp).1
  have hg : ∀ i j pv, getE (parts.toList.map fun p => (pev σ p.2).cells.map PV.softc) i j = some pv → ∃ p, parts.toList[i]? = some p ∧ p ∈ parts.toList ∧ ((pev σ p.2).cells.map PV.softc)[j]? = some pv ∧ j < tSize P e ∧ i < len ∧ cells[i * tSize P e + j]? = some ((a.eval p.2).cells.getD j undef) := by
    intro i j pv hg
    unfold getE at hg
    rw [List.getElem?_map] at hg
    cases hp : parts.toList[i]? with
    | none => simp [hp] at hg
    | some p =>
      simp only [hp, Option.map_some, Option.bind_some] at hg
      have hmem := List.mem_of_getElem? hp
      have hj : j < tSize P e := by
        rcases Nat.lt_or_ge j (pev σ p.2).cells.length with q | q
        · rw [(each p hmem).1] at q; exact q
        · rw [List.getElem?_eq_none (by simpa using q)] at hg; cases hg
      have hi' : i < len := by
        rcases Nat.lt_or_ge i parts.toList.length with q | q
        · omega
        · rw [List.getElem?_eq_none q] at hp; cases hp
      refine ⟨p, rfl, hmem, hg, hj, hi', ?_⟩
      rw [flat_get (tSize P e) parts.toList (fun p => (a.eval p.2).cells.toList) hsz i j hj, hp]
      simp only [Option.bind_some]
      rw [Array.getElem?_toList]
      exact getD_lt (by have := (rep p hmem).1; omega)
  refine .sl _ (tSize P e) _ _ _ (fun i j => cells.getD (i * tSize P e + j) undef) (by simpa using hlen.symm) (fun l hl => ?_) hk (Nat.le_refl _) (fun _ => ⟨_, rfl, .inr rfl⟩) (fun ad had i j pv hg' => ?_) (fun i j pv hg' => ?_) (fun i j pv hg' => ?_)
  · rw [List.mem_map] at hl
    obtain ⟨p, hp, rfl⟩ := hl
    rw [List.length_map]; exact (each p hp).1
  · injection had with had
    subst had
    obtain ⟨p, _, _, _, _, _, q⟩ := hg i j pv hg'
    rw [add_lit, cell_of_row _ _ _ _ _ _ (heap_alloc_new w _), Nat.zero_add, List.getElem?_toArray, q, List.getD_eq_getElem?_getD, q]
    rfl
  · obtain ⟨p, _, hp, q1, _, _, q⟩ := hg i j pv hg'
    rw [List.getD_eq_getElem?_getD, q]
    exact ((rep p hp).2 j pv q1).2
  · obtain ⟨p, _, hp, q1, _, _, q⟩ := hg i j pv hg'
    rw [List.getD_eq_getElem?_getD, q]
    exact (((rep p hp).2 j pv q1).1).same (fun b hS => hb.block b (h.ok.hS b hS)) fun b hb => .inl hb

/-- A slice written out, to be one's own. -/
theorem buildO_ok {o : Oper} {t e : TypeId} {len : Nat} {parts : Array (Nat × Operand)} (ho : o.op = .buildSlice t len parts) (ht : tElem P t = some e) (hidx : parts.toList.map (·.1) = List.range len) (hk : 0 < tSize P e) (hlim : len * tSize P e ≤ 16777216)
    (hrow : tRow P e = true) (hall : (parts.toList.all fun p => (pev σ p.2).cells.length == tSize P e && (pev σ p.2).cells.all PV.still) = true) (h : Inv P E S0 N σ a w c) (hd : ∀ k, o.dst = some k → k < N) :
    Does P E S0 N o a w (Res.put σ o.dst (.new (o.dst.getD 0) (.row e [] (parts.toList.map fun p => (pev σ p.2).cells)) (.row (.top (o.dst.getD 0)) e))) := by
  obtain ⟨i, z, hi, hz, hsz, hby, hzs, hsize⟩ := tRow_some hrow
  have hlen : parts.toList.length = len := by have := congrArg List.length hidx; simpa using this
  let cells : List Value := parts.toList.flatMap fun p => (a.eval p.2).cells.toList
  have each : ∀ p ∈ parts.toList, (pev σ p.2).cells.length = tSize P e ∧ (pev σ p.2).cells.all PV.still = true := fun p hp => by
    have := List.all_eq_true.1 hall p hp
    simpa using this
  have rep : ∀ p ∈ parts.toList, (a.eval p.2).cells.size = tSize P e ∧ ∀ (j : Nat) pv, (pev σ p.2).cells[j]? = some pv → RF w c.S pv ((a.eval p.2).cells.getD j undef) ∧ ((a.eval p.2).cells.getD j undef).oneCell' = true := fun p hp => by
    obtain ⟨q1, q2⟩ := each p hp
    obtain ⟨q3, q4⟩ := (h.ev p.2).cells (all_still_cell q2)
    exact ⟨by omega, fun j pv hg => ⟨(q4 j pv hg).1.toRF (still_free (List.all_eq_true.1 q2 pv (List.mem_of_getElem? hg))), (q4 j pv hg).2⟩⟩
  have hrun : (Instr.buildSlice t len (parts.map fun p => (p.1, a.eval p.2))).run P w = .ok (.slice (some ⟨w.heap.size, 0, none⟩) len len) (w.alloc (.cells cells.toArray e)) := run_buildSlice ht hidx hk hlim hrow fun p hp => (rep p hp).1
  have hexec : (execOp a.eval o).run P w = .ok (.value (.slice (some ⟨w.heap.size, 0, none⟩) len len)) (w.alloc (.cells cells.toArray e)) := by
    unfold execOp
    simp only [ho, Sem.run_bind, hrun, Result.andThen_ok, Sem.run_pure]
  have hb : Below w.heap.size w (w.alloc (.cells cells.toArray e)) := (Below.refl _ _).alloc (Nat.le_refl _) _
  have hcsz : ∀ p ∈ parts.toList, (a.eval p.2).cells.toList.length = tSize P e := fun p hp => by simpa using (rep p hp).1
  have hcl : cells.length = len * tSize P e := by
    have : ∀ l : List (Nat × Operand), (∀ p ∈ l, (a.eval p.2).cells.toList.length = tSize P e) → (l.flatMap fun p => (a.eval p.2).cells.toList).length = l.length * tSize P e := by
      intro l
      induction l with
      | nil => intro _; simp
      | cons p l ih =>
        intro hl
        rw [List.flatMap_cons, List.length_append, hl p (by simp), ih fun q hq => hl q (by simp [hq]), List.length_cons, Nat.add_mul]; omega
    rw [← hlen]; exact this _ hcsz
  have hg : ∀ i j pv, getE (parts.toList.map fun p => (pev σ p.2).cells) i j = some pv → ∃ p, p ∈ parts.toList ∧ (pev σ p.2).cells[j]? = some pv ∧ j < tSize P e ∧ i < len ∧ cells[i * tSize P e + j]? = some ((a.eval p.2).cells.getD j undef) := by
    intro i j pv hg
    unfold getE at hg
    rw [List.getElem?_map] at hg
    cases hp : parts.toList[i]? with
    | none => simp [hp] at hg
    | some p =>
      simp only [hp, Option.map_some, Option.bind_some] at hg
      have hmem := List.mem_of_getElem? hp
      have hj : j < tSize P e := by
        rcases Nat.lt_or_ge j (pev σ p.2).cells.length with q | q
        · rw [(each p hmem).1] at q; exact q
        · rw [List.getElem?_eq_none q] at hg; cases hg
      have hi' : i < len := by
        rcases Nat.lt_or_ge i parts.toList.length with q | q
        · omega
        · rw [List.getElem?_eq_none q] at hp; cases hp
      refine ⟨p, hmem, hg, hj, hi', ?_⟩
      rw [flat_get (tSize P e) parts.toList (fun p => (a.eval p.2).cells.toList) hcsz i j hj, hp]
      simp only [Option.bind_some]
      rw [Array.getElem?_toList]
      exact getD_lt (by have := (rep p hmem).1; omega)
  let c' := c.lay (o.dst.getD 0) w.heap.size (.slice (some ⟨w.heap.size, 0, none⟩) len len) e True
  have hok : c'.Ok E.M (w.alloc (.cells cells.toArray e)) := lay_ok h.ok hb.size (fun _ => ⟨h.below.mine (Nat.le_refl _), by simp, fun hS => by have := h.ok.hS _ hS; omega⟩) fun _ k' _ hg' e => by have := (h.ok.hD k' hg').2.1; omega
  have hhd : c'.hd (.top (o.dst.getD 0)) = .slice (some ⟨w.heap.size, 0, none⟩) len len := lay_top.2.1
  have hrep : HRep P (w.alloc (.cells cells.toArray e)) c' (o.dst.getD 0) (.row e [] (parts.toList.map fun p => (pev σ p.2).cells)) := by
    refine ⟨cells, lay_top.2.2.1, hk, fun l hl => ?_, ?_, fun b hb' => ?_, fun i j pv hgE => ?_, fun i j pv hgE => ?_⟩
    · obtain ⟨p, hp, rfl⟩ := List.mem_map.1 hl
      exact (each p hp).1
    · rw [hhd]
      refine ⟨by rw [hcl, List.length_map, hlen], .inr ⟨w.heap.size, len, cells.toArray, by rw [List.length_map, hlen], Nat.zero_le _, heap_alloc_new w _, by rw [List.length_map, hlen]; exact Nat.le_refl _, ?_, by simp [hcl], ?_⟩⟩
      · have := Nat.le_mul_of_pos_right len hk
        unfold maxLen; omega
      · rw [List.length_map, hlen, ← hcl]; simp
    · rw [hhd] at hb'
      simp [Value.ownBlock] at hb'; subst hb'
      exact ⟨lay_top.2.2.2.2 trivial, lay_top.1⟩
    · obtain ⟨p, hp, q1, _, _, q⟩ := hg i j pv hgE
      rw [List.getD_eq_getElem?_getD, q]
      exact ((rep p hp).2 j pv q1).2
    · obtain ⟨p, hp, q1, _, _, q⟩ := hg i j pv hgE
      rw [List.getD_eq_getElem?_getD, q]
      exact (((rep p hp).2 j pv q1).1).same (fun b hS => hb.block b (h.ok.hS b hS)) fun b hb => hb
  refine does_new (dst_small h hd) h hd hexec hb hok (fun _ => Iff.rfl) (fun k hk => ⟨lay_agree hk, (lay_D hk).2⟩) hrep ?_
  obtain ⟨xs', r'⟩ := hrep
  have := RV.row (P := P) (w := w.alloc (.cells cells.toArray e)) (c := c') (.top (o.dst.getD 0)) e r'.ty r'.hd_one
  rwa [hhd] at this
end
section
variable {G : Prg} {ops : Array Oper} {k : Nat} {σ : St} {K : St → Prop}
theorem evo_does {o : Oper} (ho : opAt ops k = some o) (hg : pguard ops σ o = some true) {σ' : St} (h : ∀ {E : Ent} {S0 : Nat → Prop} {N : Nat} {a : Act} {w : World} {c : Ctx}, Inv G.P E S0 N σ a w c → (∀ k, o.dst = some k → k < N) → Does G.P E S0 N o a w σ') (next : EVO G ops (k + 1) σ' K) : EVO G ops k σ K :=
  evo_one ho hg (fun _ E S0 N a w c hi hd nx Q hn => h hi hd nx Q fun a' w' c' hi' => hn _ _ _ _ next hi') fun e => nomatch e
/-- an operation that does what r says, whatever the rest -/
def DoesAt (G : Prg) (ops : Array Oper) (k : Nat) (σ : St) (r : Res) : Prop := ∃ o, opAt ops k = some o ∧ pguard ops σ o = some true ∧ ∀ {E : Ent} {S0 : Nat → Prop} {N : Nat} {a : Act} {w : World} {c : Ctx}, Inv G.P E S0 N σ a w c → (∀ k, o.dst = some k → k < N) → Does G.P E S0 N o a w (r.put σ o.dst)
theorem evs_at {r : Res} (h : DoesAt G ops k σ r) (next : EVS G ops (k + 1) (r.put σ (dstAt ops k)) K) : EVS G ops k σ K := by
  obtain ⟨o, h1, h2, h3⟩ := h
  rw [dstAt_eq h1] at next
  exact evs_does h1 h2 h3 next
theorem evo_at {r : Res} (h : DoesAt G ops k σ r) (next : EVO G ops (k + 1) (r.put σ (dstAt ops k)) K) : EVO G ops k σ K := by
  obtain ⟨o, h1, h2, h3⟩ := h
  rw [dstAt_eq h1] at next
  exact evo_does h1 h2 h3 next
def isnilAt (G : Prg) (ops : Array Oper) (k : Nat) (σ : St) : Option PV := match onAt ops k σ with
  | some o => (match o.op with
    | .binOp .eql t x (.const (.slice none 0 0)) _ => (match tElem G.P t with
      | some _ => some (pev σ x)
      | none => none)
    | _ => none)
  | none => none
theorem evs_isnil {es : List (List PV)} (h : isnilAt G ops k σ = some (.sl es)) (h1 : es = [] → EVS G ops (k + 1) (setO σ (dstAt ops k) (vB true)) K) (h2 : EVS G ops (k + 1) (setO σ (dstAt ops k) (vB false)) K) : EVS G ops k σ K := by
  unfold isnilAt at h
  split at h
  case h_2 => cases h
  rename_i o ho
  split at h
  case h_2 => cases h
  rename_i t x t' hop
  split at h
  case h_2 => cases h
  rename_i e he
  injection h with hx
  obtain ⟨q1, q2⟩ := onAt_spec ho
  rw [dstAt_eq q1] at h1 h2
  refine evs_one q1 q2 (fun _ E S0 N a w c hi hd nx Q hn => ?_) fun e => nomatch e
  obtain ⟨b, hb, hdo⟩ := isnil_ok hop he hx hi hd
  refine hdo nx Q fun a' w' c' hi' => ?_
  rw [put_eq] at hi'
  cases b with
  | true => exact hn _ _ _ _ (h1 (hb rfl)) hi'
  | false => exact hn _ _ _ _ h2 hi'
/-- the elements of a slice that is written out -/
def bldAt (G : Prg) (ops : Array Oper) (k : Nat) (σ : St) : Option (Nat × List (List PV) × Nat) := match onAt ops k σ with
  | some o => (match o.op with
    | .buildSlice t len parts => (match tElem G.P t with
      | some e => if decide (parts.toList.map (·.1) = List.range len) && Nat.blt 0 (tSize G.P e) && Nat.ble (len * tSize G.P e) 16777216 && tRow G.P e && (parts.toList.all fun p => (pev σ p.2).cells.length == tSize G.P e && (pev σ p.2).cells.all PV.still) then some (e, parts.toList.map (fun p => (pev σ p.2).cells), o.dst.getD 0) else none
      | none => none)
    | _ => none)
  | none => none
def bldSAt (G : Prg) (ops : Array Oper) (k : Nat) (σ : St) : Option (List (List PV)) := match onAt ops k σ with
  | some o => (match o.op with
    | .buildSlice t len parts => (match tElem G.P t with
      | some e => if decide (parts.toList.map (·.1) = List.range len) && Nat.blt 0 (tSize G.P e) && Nat.ble (len * tSize G.P e) 16777216 && tRow G.P e && (parts.toList.all fun p => (pev σ p.2).cells.length == tSize G.P e && ((pev σ p.2).cells.map PV.softc).all PV.still) then some (parts.toList.map (fun p => (pev σ p.2).cells.map PV.softc)) else none
      | none => none)
    | _ => none)
  | none => none
theorem at_buildS {es : List (List PV)} (h : bldSAt G ops k σ = some es) : DoesAt G ops k σ (.val (.sl es)) := by
  unfold bldSAt at h
  split at h
  case h_2 => cases h
  rename_i o ho
  split at h
  case h_2 => cases h
  rename_i t len parts hop
  split at h
  case h_2 => cases h
  rename_i e' he
  split at h
  case isFalse => cases h
  rename_i hc
  simp only [Bool.and_eq_true, decide_eq_true_eq] at hc
  obtain ⟨⟨⟨⟨c1, c2⟩, c3⟩, c4⟩, c5⟩ := hc
  injection h with h
  subst h
  obtain ⟨q1, q2⟩ := onAt_spec ho
  exact ⟨o, q1, q2, fun hi hd => buildS_ok hop he c1 (by simpa using c2) (Nat.le_of_ble_eq_true c3) c4 c5 hi hd⟩
theorem at_build {e d : Nat} {es : List (List PV)} (h : bldAt G ops k σ = some (e, es, d)) : DoesAt G ops k σ (.new d (.row e [] es) (.row (.top d) e)) := by
  unfold bldAt at h
  split at h
  case h_2 => cases h
  rename_i o ho
  split at h
  case h_2 => cases h
  rename_i t len parts hop
  split at h
  case h_2 => cases h
  rename_i e' he
  split at h
  case isFalse => cases h
  rename_i hc
  simp only [Bool.and_eq_true, decide_eq_true_eq] at hc
  obtain ⟨⟨⟨⟨c1, c2⟩, c3⟩, c4⟩, c5⟩ := hc
  simp only [Option.some.injEq, Prod.mk.injEq] at h
  obtain ⟨rfl, rfl, rfl⟩ := h
  obtain ⟨q1, q2⟩ := onAt_spec ho
  exact ⟨o, q1, q2, fun hi hd => buildO_ok hop he c1 (by simpa using c2) (Nat.le_of_ble_eq_true c3) c4 c5 hi hd⟩
def sidxAt (G : Prg) (ops : Array Oper) (k : Nat) (σ : St) : Option (PV × PV) := match onAt ops k σ with
  | some o => (match o.op with
    | .index t x ix => (match G.P.underlying t with
      | some .string => some (pev σ x, pev σ ix)
      | _ => none)
    | _ => none)
  | none => none
theorem at_sidx {s : ByteArray} {i x : Int} {kd : IntKind} (h : sidxAt G ops k σ = some (.lit (.string s), .lit (.int kd i))) (hx : sidx s i = some x) : DoesAt G ops k σ (.val (.lit (.int .u8 x))) := by
  unfold sidxAt at h
  split at h
  case h_2 => cases h
  rename_i o ho
  split at h
  case h_2 => cases h
  rename_i t y z hop
  split at h
  case h_2 => cases h
  rename_i hu
  simp only [Option.some.injEq, Prod.mk.injEq] at h
  obtain ⟨h1, h2⟩ := h
  obtain ⟨q1, q2⟩ := onAt_spec ho
  refine ⟨o, q1, q2, fun hi hd => ?_⟩
  have r1 := hi.ev y
  rw [h1] at r1
  have r2 := hi.ev z
  rw [h2] at r2
  refine does_value hi hd ?_ (.free _ _ (.lit _))
  unfold sidx at hx
  split at hx
  case isFalse => cases hx
  rename_i h0
  obtain ⟨b, hb, rfl⟩ := Option.map_eq_some_iff.1 hx
  unfold execOp
  simp only [hop, r1.lit_eq, r2.lit_eq, Instr.index, asIntOf, Sem.run_bind, Sem.run_pure, Result.andThen_ok, run_underlying hu, h0, if_true, hb]
end
end Go.VI
