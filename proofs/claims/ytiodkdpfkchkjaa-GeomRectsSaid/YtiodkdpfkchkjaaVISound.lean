/- Whole bodies: the evaluator, and that it is sound. -/
import Derived.Test.YtiodkdpfkchkjaaVIDraw
set_option linter.unusedVariables false
set_option linter.unusedSimpArgs false
set_option linter.unusedSectionVars false
namespace Go.VI
open Go.RowKit

inductive PX where
  | normal
  | exit (id : Nat)
  | ret

/-- σ' says no more than σ. -/
def Sub (σ' σ : St) : Prop := ∀ i, σ'.get i = .undef ∨ σ'.get i = σ.get i

/-- At most n rounds; what is not wanted may be forgotten ahead of each. -/
def loopP (body : St → (PX → St → Prop) → Prop) : Nat → St → (PX → St → Prop) → Prop
  | 0, _, _ => False
  | n + 1, σ, K => ∃ σ1, Sub σ1 σ ∧ body σ1 fun x σ' => match x with
    | .normal => loopP body n σ' K
    | x => K x σ'
def loopE (body : St → (PX → St → Prop) → Prop) (σ : St) (K : PX → St → Prop) : Prop := ∃ n, loopP body n σ K
def condE (b : Bool) (A B : Unit → Prop) : Prop := (b = true → A ()) ∧ (b = false → B ())
def pbool : PV → Option Bool
  | .lit (.bool b) => some b
  | _ => none

def cw (P : Program) (eqn : TypeId → Nat) : Code → St → (PX → St → Prop) → Prop
  | .skip, σ, K => K .normal σ
  | .region _ ops false, σ, K => evOps P eqn ops ops.toList σ (K .normal)
  | .region _ ops true, σ, K => drawE P eqn ops σ (K .normal)
  | .seq a b, σ, K => cw P eqn a σ fun x σ' => match x with
    | .normal => cw P eqn b σ' K
    | x => K x σ'
  | .cond c a b, σ, K => optE (pbool (pev σ c)) fun t => condE t (fun _ => cw P eqn a σ K) (fun _ => cw P eqn b σ K)
  | .block id c, σ, K => cw P eqn c σ fun x σ' => match x with
    | .exit i => if i = id then K .normal σ' else K x σ'
    | x => K x σ'
  | .loop c, σ, K => loopE (cw P eqn c) σ K
  | .exit id, σ, K => K (.exit id) σ
  | .ret, σ, K => K .ret σ
  | _, _, _ => False

/-- all slots that are written lie in the frame -/
def dstOk (N : Nat) : Code → Bool
  | .region _ ops _ => ops.toList.all fun o => match o.dst with | some d => decide (d < N) | none => true
  | .seq a b => dstOk N a && dstOk N b
  | .cond _ a b => dstOk N a && dstOk N b
  | .block _ c => dstOk N c
  | .loop c => dstOk N c
  | _ => true

def pres1 (P : Program) (σ : St) : ResultVar → Option PV
  | .tmp t => some (σ.get t)
  | .cell t ty => match tAgg P ty with
    | some agg => pload agg (tSize P ty) (σ.get t)
    | none => none
def presL (P : Program) (σ : St) : List ResultVar → Option (List PV)
  | [] => some []
  | x :: xs => match pres1 P σ x, presL P σ xs with
    | some v, some vs => some (v :: vs)
    | _, _ => none
def pres (P : Program) (σ : St) (l : List ResultVar) : Option PV :=
  match presL P σ l with
  | some [v] => some v
  | some vs => some (.tup vs)
  | none => none
def initSt : Nat → List PV → St
  | _, [] => []
  | i, v :: vs => (i, v) :: initSt (i + 1) vs

section
variable {P : Program} {w0 : Ent} {S0 : Nat → Prop} {N : Nat} {σ : St} {a : Act} {w : World} {c : Ctx}

/-- How an exit of the model and one of the evaluator go together. -/
def PX.like : PX → Exit → Prop
  | .normal, .normal => True
  | .exit i, .exit j => i = j
  | .ret, .ret => True
  | _, _ => False

theorem sub_inv {σ' : St} (hs : Sub σ' σ) (h : Inv P w0 S0 N σ a w c) : Inv P w0 S0 N σ' a w c :=
  ⟨h.below, h.ok, h.sub, h.sup, fun i => by rcases hs i with e | e <;> rw [e]; exact .free _ _ (.undef _); exact h.slots i, h.size, h.defers⟩

/-- **The evaluator is sound.** -/
theorem cw_ok {eqn : TypeId → Nat} (hE : ∀ t, 0 < eqn t → EqC P t (eqn t)) (hmix : P.follows .mixedOrders = true) : ∀ (cd : Code) {σ : St} {a : Act} {w : World} {c : Ctx} {K : PX → St → Prop}, dstOk N cd = true → cw P eqn cd σ K → Inv P w0 S0 N σ a w c →
    cd.wp P (fun e a' w' => ∃ x σ' c', PX.like x e ∧ K x σ' ∧ Inv P w0 S0 N σ' a' w' c') a w
  | .skip, σ, a, w, c, K, _, hK, h => wp_skip ⟨.normal, σ, c, trivial, hK, h⟩
  | .exit id, σ, a, w, c, K, _, hK, h => wp_exit ⟨.exit id, σ, c, rfl, hK, h⟩
  | .ret, σ, a, w, c, K, _, hK, h => wp_ret ⟨.ret, σ, c, trivial, hK, h⟩
  | .region id ops false, σ, a, w, c, K, hd, hK, h => by
    refine wp_region ?_
    have hall : ∀ o ∈ ops.toList, ∀ k, o.dst = some k → k < N := fun o ho k hk => by
      have := List.all_eq_true.1 (by rw [dstOk] at hd; exact hd) o ho
      rw [hk] at this
      simpa using this
    have := evOps_ok hE hall (fun e a' w' => ∃ x σ' c', PX.like x e ∧ K x σ' ∧ Inv P w0 S0 N σ' a' w' c') ops.toList 0 (by simp) hK h fun σ' a' w' c' hk hi => ⟨.normal, σ', c', trivial, hk, hi⟩
    rwa [← List.range_eq_range', Array.length_toList] at this
  | .region id ops true, σ, a, w, c, K, hd, hK, h => by
    have hall : ∀ o ∈ ops.toList, ∀ k, o.dst = some k → k < N := fun o ho k hk => by
      have := List.all_eq_true.1 (by rw [dstOk] at hd; exact hd) o ho
      rw [hk] at this
      simpa using this
    exact drawE_ok hE hmix hall hK h _ fun σ' a' w' c' hk hi => ⟨.normal, σ', c', trivial, hk, hi⟩
  | .seq x y, σ, a, w, c, K, hd, hK, h => by
    simp only [dstOk, Bool.and_eq_true] at hd
    refine wp_seq (wp_mono (cw_ok hE hmix x hd.1 hK h) fun e a' w' he => ?_)
    obtain ⟨px, σ', c', hl, hk, hi⟩ := he
    cases px <;> cases e <;> simp only [PX.like] at hl
    · exact cw_ok hE hmix y hd.2 hk hi
    · exact ⟨.exit _, σ', c', by rw [PX.like]; exact hl, hk, hi⟩
    · exact ⟨.ret, σ', c', trivial, hk, hi⟩
  | .cond cc x y, σ, a, w, c, K, hd, hK, h => by
    simp only [dstOk, Bool.and_eq_true] at hd
    simp only [cw, optE] at hK
    split at hK
    · rename_i t ht
      have hv := h.ev cc
      have ht : pev σ cc = .lit (.bool t) := by
        unfold pbool at ht
        split at ht
        · rename_i e; injection ht with ht; subst ht; exact e
        · cases ht
      rw [ht] at hv
      exact wp_cond_split hv.lit_eq (fun e => cw_ok hE hmix x hd.1 (hK.1 e) h) (fun e => cw_ok hE hmix y hd.2 (hK.2 e) h)
    · exact hK.elim
  | .block id x, σ, a, w, c, K, hd, hK, h => by
    refine wp_block (wp_mono (cw_ok hE hmix x (by rw [dstOk] at hd; exact hd) hK h) fun e a' w' he => ?_)
    obtain ⟨px, σ', c', hl, hk, hi⟩ := he
    cases px <;> cases e <;> simp only [PX.like] at hl
    · exact ⟨.normal, σ', c', trivial, hk, hi⟩
    · subst hl
      simp only [Exit.inBlock]
      simp only at hk
      split at hk
      · rename_i e; rw [if_pos e]; exact ⟨.normal, σ', c', trivial, hk, hi⟩
      · rename_i e; rw [if_neg e]; exact ⟨.exit _, σ', c', rfl, hk, hi⟩
    · exact ⟨.ret, σ', c', trivial, hk, hi⟩
  | .loop x, σ, a, w, c, K, hd, hK, h => by
    obtain ⟨n, hK⟩ := hK
    refine wp_loop_rounds n ?_
    induction n generalizing σ a w c with
    | zero => exact hK.elim
    | succ n ih =>
      obtain ⟨σ1, hs, hK⟩ := hK
      rw [rounds_succ]
      refine wp_mono (cw_ok hE hmix x (by rw [dstOk] at hd; exact hd) hK (sub_inv hs h)) fun e a' w' he => ?_
      obtain ⟨px, σ', c', hl, hk, hi⟩ := he
      cases px <;> cases e <;> simp only [PX.like] at hl
      · apply ih <;> assumption
      · exact ⟨.exit _, σ', c', by rw [PX.like]; exact hl, hk, hi⟩
      · exact ⟨.ret, σ', c', trivial, hk, hi⟩
  | .rangeFunc _ _ _ _, _, _, _, _, _, _, hK, _ => hK.elim
  | .scope _, _, _, _, _, _, _, hK, _ => hK.elim
  | .label _, _, _, _, _, _, _, hK, _ => hK.elim
  | .goto _, _, _, _, _, _, _, hK, _ => hK.elim
  | .refuse _, _, _, _, _, _, _, hK, _ => hK.elim

theorem initSt_get (vs : List PV) : ∀ i k, (initSt i vs).get k = if i ≤ k then (vs[k - i]?).getD .undef else .undef := by
  induction vs with
  | nil => intro i k; simp [initSt, St.get]
  | cons v vs ih =>
    intro i k
    simp only [initSt, St.get]
    by_cases e : k = i
    · subst e; simp
    · rw [if_neg e, ih]
      by_cases h : i + 1 ≤ k
      · rw [if_pos h, if_pos (by omega), show k - i = (k - (i + 1)) + 1 from by omega, List.getElem?_cons_succ]
      · rw [if_neg h, if_neg (by omega)]

theorem pres1_ok {x : ResultVar} {pv : PV} (h : Inv P w0 S0 N σ a w c) (hp : pres1 P σ x = some pv) :
    ∃ v, (match x with | .tmp t => pure (a.tmps.getD t undef) | .cell ad t => do loadVar t (← asAddr (a.tmps.getD ad undef)) : Sem Value).run P w = .ok v w ∧ RV P w c pv v := by
  unfold pres1 at hp
  split at hp
  · rename_i t
    injection hp with hp
    subst hp
    exact ⟨_, rfl, h.slots t⟩
  · rename_i ad t
    split at hp
    case h_2 => cases hp
    rename_i agg hagg
    obtain ⟨v, q1, q2⟩ := pload_ok hagg (h.slots ad) hp
    refine ⟨v, ?_, q2⟩
    have hpt : ∃ p, a.tmps.getD ad undef = .pointer (some p) := by
      generalize a.tmps.getD ad undef = X at q1
      cases X with
      | pointer p => cases p with
        | some p => exact ⟨p, rfl⟩
        | none => simp [Instr.loadAt, Instr.sureAddr, stuck, Sem.run_bind, Sem.run, Result.andThen] at q1
      | _ => simp [Instr.loadAt, Instr.sureAddr, stuck, Sem.run_bind, Sem.run, Result.andThen] at q1
    obtain ⟨p, hp'⟩ := hpt
    rw [hp'] at q1 ⊢
    simpa [Instr.loadAt, Instr.sureAddr, asAddr, Sem.run_bind] using q1
theorem presL_ok : ∀ {l : List ResultVar} {vs : List PV}, Inv P w0 S0 N σ a w c → presL P σ l = some vs →
    ∃ us : List Value, (l.mapM fun x => (match x with | .tmp t => pure (a.tmps.getD t undef) | .cell ad t => do loadVar t (← asAddr (a.tmps.getD ad undef)) : Sem Value)).run P w = .ok us w ∧ us.length = vs.length ∧ ∀ (i : Nat) pv, vs[i]? = some pv → RV P w c pv (us.getD i undef)
  | [], vs, _, hp => by
    simp [presL] at hp
    subst hp
    exact ⟨[], by simp [List.mapM_nil], rfl, by simp⟩
  | x :: l, vs, h, hp => by
    simp only [presL] at hp
    split at hp
    case h_2 => cases hp
    rename_i v ws h1 h2
    injection hp with hp
    subst hp
    obtain ⟨u, q1, q2⟩ := pres1_ok h h1
    obtain ⟨us, q3, q4, q5⟩ := presL_ok h h2
    refine ⟨u :: us, ?_, by simp [q4], fun i pv hg => ?_⟩
    · simp only [List.mapM_cons, Sem.run_bind, q1, Result.andThen_ok, q3, Sem.run_pure]
    · cases i with
      | zero => simp at hg; subst hg; exact q2
      | succ i => simpa using q5 i pv (by simpa using hg)
theorem pres_ok {fn : Func} {r : PV} (h : Inv P w0 S0 N σ a w c) (hp : pres P σ fn.results.toList = some r) : ∃ v, (results fn a.tmps).run P w = .ok v w ∧ RV P w c r v := by
  unfold pres at hp
  have main : ∀ vs, presL P σ fn.results.toList = some vs → ∃ us : List Value, us.length = vs.length ∧ (∀ (i : Nat) pv, vs[i]? = some pv → RV P w c pv (us.getD i undef)) ∧ (results fn a.tmps).run P w = .ok (if hh : us.toArray.size = 1 then us.toArray[0] else .tuple us.toArray) w := by
    intro vs hv
    obtain ⟨us, q1, q2, q3⟩ := presL_ok h hv
    refine ⟨us, q2, q3, ?_⟩
    unfold results
    rw [Array.mapM_eq_mapM_toList]
    simp only [Sem.run_bind, map_eq_pure_bind, Sem.run_pure]
    erw [q1]
    simp only [Result.andThen_ok]
  split at hp
  · rename_i v hv
    injection hp with hp
    subst hp
    obtain ⟨us, q1, q2, q3⟩ := main _ hv
    match us, q1 with
    | [u], _ => exact ⟨u, by simpa using q3, by simpa using q2 0 v rfl⟩
  · rename_i vs hne hv
    injection hp with hp
    subst hp
    obtain ⟨us, q1, q2, q3⟩ := main _ hv
    have hl : us.toArray.size ≠ 1 := by
      intro e
      simp at e
      rw [q1] at e
      match vs, e with
      | [v], _ => exact hne v rfl
    rw [dif_neg hl] at q3
    exact ⟨_, q3, .tup vs _ (by simpa using q1) fun i pv hg => by simpa [Array.getD_eq_getD_getElem?] using q2 i pv hg⟩
  · cases hp

/-- What a body must come to. -/
def retK (P : Program) (l : List ResultVar) (r : PV) (x : PX) (σ : St) : Prop := (match x with | .exit _ => False | _ => True) ∧ pres P σ l = some r

/-- **A contract, out of an evaluation.** -/
theorem pc_intro {eqn : TypeId → Nat} (hE : ∀ t, 0 < eqn t → EqC P t (eqn t)) (hmix : P.follows .mixedOrders = true) {f : FuncId} {fn : Func} {cd : Code} {args : List PV} {r : PV} (hf : P.funcs[f]? = some fn) (hb : fn.body = some cd) (hname : (fn.name == "runtime.NumGoroutine") = false)
    (hd : dstOk fn.ntmps cd = true) (hl : args.length ≤ fn.ntmps) (h : cw P eqn cd (initSt 0 args) (retK P fn.results.toList r)) : PCalls P f args r := by
  refine ⟨by unfold enters; simp [hf, hb, hname], fun w S vals hS hlen hrep => ?_⟩
  refine calls_of_wp hf hb ?_
  have hsz : (vals.toArray ++ Array.replicate (fn.ntmps - vals.toArray.size) undef).size = fn.ntmps := by simp; omega
  have inv : Inv P ⟨w, fun b => w.heap.size ≤ b, fun _ h => h⟩ S fn.ntmps (initSt 0 args) { tmps := vals.toArray ++ Array.replicate (fn.ntmps - vals.toArray.size) undef, defers := [] } w ⟨S, fun _ => 0, fun _ _ => False⟩ := by
    refine ⟨⟨rfl, rfl, rfl, Nat.le_refl _, fun _ _ _ => rfl⟩, ⟨hS, fun _ _ h => h.elim, fun _ _ _ _ h => h.elim⟩, fun _ h => h, fun _ h => .inl h, fun i => ?_, hsz, rfl⟩
    rw [initSt_get]
    simp only [Nat.zero_le, if_true, Nat.sub_zero]
    cases hi : args[i]? with
    | none => exact .free _ _ (.undef _)
    | some pv =>
      have hlt : i < vals.length := by
        rw [hlen]
        rcases Nat.lt_or_ge i args.length with q | q
        · exact q
        · rw [List.getElem?_eq_none q] at hi; cases hi
      refine .free _ _ ?_
      have := hrep i pv hi
      simp only [Option.getD_some]
      rw [Array.getD_eq_getD_getElem?, Array.getElem?_append_left (by simpa using hlt)]
      simpa [List.getD_eq_getElem?_getD] using this
  refine wp_mono (cw_ok hE hmix cd hd h inv) fun e a' w' he => ?_
  obtain ⟨px, σ', c', hl, ⟨hk1, hk2⟩, hi⟩ := he
  obtain ⟨v, q1, q2⟩ := pres_ok hi hk2
  have fin : bodyPost P fn (fun e w' => ∃ v c', e = .returned v ∧ Below w.heap.size w w' ∧ (∀ b, S b → c'.S b) ∧ (∀ b, c'.S b → S b ∨ w.heap.size ≤ b) ∧ c'.Ok (fun b => w.heap.size ≤ b) w' ∧ RV P w' c' r v) .ret a' w' :=
    ⟨hi.defers, v, q1, v, c', rfl, ⟨hi.below.os, hi.below.tape, hi.below.output, hi.below.size, fun k hk => hi.below.block k hk (Nat.not_le.2 hk)⟩, hi.sub, hi.sup, hi.ok, q2⟩
  cases px <;> cases e <;> simp only [PX.like] at hl
  · exact fin
  · exact hk1.elim
  · exact fin

/-- A contract that says of its result no more than what may be read. -/
theorem PCalls.seen {f : FuncId} {args : List PV} {r : PV} (h : PCalls P f args r) : PCalls P f args r.view := by
  refine ⟨h.1, fun w S vals hS hlen hrep => (h.2 w S vals hS hlen hrep).mono fun e w' he => ?_⟩
  obtain ⟨v, c', rfl, hb, hs1, hs2, hok, hv⟩ := he
  refine ⟨v, ⟨fun b => c'.S b ∨ c'.blocks b, fun _ => 0, fun _ _ => False⟩, rfl, hb, fun b hS => .inl (hs1 b hS), fun b hb' => ?_, ⟨fun b hb' => ?_, fun _ _ h => h.elim, fun _ _ _ _ h => h.elim⟩, .free _ _ hv.view⟩
  · rcases hb' with q | ⟨g, k, q1, rfl⟩
    · exact hs2 b q
    · exact .inr (hok.hD g k q1).1
  · rcases hb' with q | ⟨g, k, q1, rfl⟩
    · exact hok.hS b q
    · exact (hok.hD g k q1).2.1
end
end Go.VI
