/- Calls, statements, loops: the evaluator for whole bodies, and that it is sound. -/
import Derived.Test.YtiodkdpfkchkjaaVIPeop
import Derived.LoopN
set_option linter.unusedVariables false
set_option linter.unusedSimpArgs false
set_option linter.unusedSectionVars false
namespace Go.VI
open Go.RowKit

/-- A call of function f. -/
def callE (P : Program) (f : FuncId) (args : List PV) (d : Option Nat) (σ : St) (K : St → Prop) : Prop :=
  ∃ r, PCalls P f (PV.viewL args) r ∧ (PV.freeL args = true ∨ r.fresh = true) ∧ (K (Res.put σ d (.val r.view)) ∨ ∃ g e es dd, r = .own g e es ∧ d = some dd ∧ K (Res.put σ d (.new (.own dd e es))))

/-- The function that an operation calls, with its arguments. -/
def pcallee (σ : St) : Op → Option (Nat × List PV)
  | .call c => match c.callee with
    | .value x => match pev σ x with
      | .fn f caps => some (f, c.args.toList.map (pev σ) ++ caps)
      | _ => none
    | _ => none
  | _ => none

/-- what follows a step that may fail -/
def optE {α : Type} (x : Option α) (K : α → Prop) : Prop := match x with
  | some r => K r
  | none => False
/-- What is said of an operation by its meaning alone. -/
def OpSem (P : Program) (o : Oper) (σ : St) (K : St → Prop) : Prop :=
  ∀ (w0 : Ent) (S0 : Nat → Prop) (N : Nat) (a : Act) (w : World) (c : Ctx), Inv P w0 S0 N σ a w c → (∀ k, o.dst = some k → k < N) →
    ∀ (next : Act → World → Prop) (Q : Exit → Act → World → Prop), (∀ σ' a' w' c', K σ' → Inv P w0 S0 N σ' a' w' c' → next a' w') → o.wp P a w next Q
def opE (P : Program) (eqn : TypeId → Nat) (o : Oper) (σ : St) (K : St → Prop) : Prop :=
  (match pcallee σ o.op with
  | some fa => callE P fa.1 fa.2 o.dst σ K
  | none => optE (peop P eqn σ (o.dst.getD 0) o.type o.op) fun r => K (r.put σ o.dst)) ∨ OpSem P o σ K

def evOps (P : Program) (eqn : TypeId → Nat) (ops : Array Oper) : List Oper → St → (St → Prop) → Prop
  | [], σ, K => K σ
  | o :: rest, σ, K => optE (pguard ops σ o) fun b => match b with
    | true => opE P eqn o σ fun σ' => evOps P eqn ops rest σ' K
    | false => evOps P eqn ops rest (Res.put σ o.dst (.val (.lit undef))) K

/-- the slots that an operation reads -/
def oreads (ops : Array Oper) (o : Oper) : List Nat :=
  (o.op.operands.toList.filterMap fun x => match x with | .tmp t => some t | _ => none) ++ (match o.guard with | some (j, _) => ((ops[j]?).bind (·.dst)).toList | none => [])
/-- Two operations neither of which touches what the other one writes or reads. -/
def indep (ops : Array Oper) (o o' : Oper) : Bool :=
  match o.dst, o'.dst with
  | some d, some d' => !(d == d') && !((oreads ops o').contains d) && !((oreads ops o).contains d')
  | _, _ => false

def direct (o : Oper) : List Nat := o.after.toList.filterMap fun e => if Region.binds .any e then some e.on else none
def masksGo : List Oper → List Nat → List Nat
  | [], acc => acc
  | o :: rest, acc => masksGo rest (acc ++ [(direct o).foldl (fun s k => s ||| 2 ^ k ||| acc.getD k 0) 0])
def forced (ms : List Nat) (i j : Nat) : Bool := (ms.getD j 0).testBit i

/-! ### the evaluator for such a region -/
def isAlloc : Op → Bool
  | .alloc _ => true
  | _ => false
def resD (op : Op) : Res → Option PV
  | .val v => some v
  | .new v => if isAlloc op then some v else none
  | .mut _ _ => none
def callD (P : Program) (f : FuncId) (args : List PV) (d : Option Nat) (σ : St) (K : St → Prop) : Prop :=
  ∃ r, PCalls P f (PV.viewL args) r ∧ (PV.freeL args = true ∨ r.fresh = true) ∧ K (Res.put σ d (.val r.view))
def opD (P : Program) (eqn : TypeId → Nat) (ab : List Nat) (o : Oper) (σ : St) (K : St → Prop) : Prop :=
  match pcallee σ o.op with
  | some fa => callD P fa.1 fa.2 o.dst σ K
  | none => optE ((peop P eqn σ (o.dst.getD 0) o.type o.op).bind (resD o.op)) fun r => ab.all (fun d => !r.has d) = true ∧ K (Res.put σ o.dst (.val r))
def evD (P : Program) (eqn : TypeId → Nat) (ops : Array Oper) : List (List Nat) → List Oper → St → (St → Prop) → Prop
  | _, [], σ, K => K σ
  | ab, o :: rest, σ, K => optE (pguard ops σ o) fun b => match b with
    | true => opD P eqn (ab.headD []) o σ fun σ' => evD P eqn ops ab.tail rest σ' K
    | false => evD P eqn ops ab.tail rest (Res.put σ o.dst (.val (.lit undef))) K

/-- All that is asked of the region's text: m: how many operations may change places. -/
def drawOk (ops : Array Oper) (ab : List (List Nat)) (m : Nat) : Bool :=
  let ms := masksGo ops.toList []
  let at_ := fun k => ops.getD k default
  decide (m ≤ ops.size) &&
  ((List.range ops.size).all fun j => (direct (at_ j)).all fun k => decide (k < j)) &&
  ((List.range m).all fun j => (at_ j).dst.isSome) &&
  ((List.range m).all fun j => (List.range j).all fun i => forced ms i j || indep ops (at_ i) (at_ j)) &&
  ((List.range m).all fun i => !isAlloc (at_ i).op || (List.range m).all fun j => j == i || forced ms i j || (ab.getD j []).contains ((at_ i).dst.getD 0)) &&
  ((List.range ops.size).all fun j => decide (j < m) || (List.range j).all fun i => forced ms i j)

def killAll (ops : Array Oper) (m : Nat) (σ : St) : St := ((ops.toList.take m).filter fun o => isAlloc o.op).foldl (fun s o => s.map (PV.kill (o.dst.getD 0))) σ

def drawE (P : Program) (eqn : TypeId → Nat) (ops : Array Oper) (σ : St) (K : St → Prop) : Prop :=
  ∃ ab m, drawOk ops ab m = true ∧ evD P eqn ops ab (ops.toList.take m) (killAll ops m σ) fun σ' => evOps P eqn ops (ops.toList.drop m) σ' K

section
variable {P : Program} {w0 : Ent} {S0 : Nat → Prop} {N : Nat} {σ : St} {a : Act} {w : World} {c : Ctx}

theorem callE_ok {o : Oper} {f : Nat} {args : List PV} {K : St → Prop} (hc : pcallee σ o.op = some (f, args)) (hK : callE P f args o.dst σ K) (h : Inv P w0 S0 N σ a w c) (hd : ∀ k, o.dst = some k → k < N)
    (next : Act → World → Prop) (Q : Exit → Act → World → Prop) (hn : ∀ σ' a' w' c', K σ' → Inv P w0 S0 N σ' a' w' c' → next a' w') : o.wp P a w next Q := by
  obtain ⟨r, ⟨hent, hcall⟩, hfree, hk⟩ := hK
  -- the operands
  unfold pcallee at hc
  split at hc
  case h_2 => cases hc
  rename_i cl hop
  split at hc
  case h_2 => cases hc
  rename_i x hcal
  split at hc
  case h_2 => cases hc
  rename_i f' caps hx
  simp only [Option.some.injEq, Prod.mk.injEq] at hc
  obtain ⟨rfl, rfl⟩ := hc
  have rx := h.ev x
  rw [hx] at rx
  have hfn : ∃ vs : Array Value, a.eval x = .func (.func f') #[] vs ∧ vs.size = caps.length ∧ ∀ (i : Nat) pv, caps[i]? = some pv → RV P w c pv (vs.getD i undef) := by
    generalize a.eval x = X at rx
    cases rx with
    | free pv v hf => cases hf with | fn f cs vs hn hr => exact ⟨vs, rfl, hn, fun i pv hg => .free _ _ (hr i pv hg)⟩
    | fn f cs vs hn hr => exact ⟨vs, rfl, hn, hr⟩
  obtain ⟨cv, hX, hcn, hcr⟩ := hfn
  have hrun : (execOp a.eval o).run P w = .ok (.enter f' (cl.args.map a.eval ++ cv)) w := by
    unfold enters at hent
    cases hfu : P.funcs[f']? with
    | none => simp [hfu] at hent
    | some fn =>
      simp only [hfu, Bool.and_eq_true, Bool.not_eq_true'] at hent
      have hb : fn.body.isNone = false := by
        cases hbo : fn.body <;> simp [hbo] at hent ⊢
      unfold execOp
      simp only [hop, resolve, hcal, hX, Deferred.ofValue, Sem.run_bind, Sem.run_pure, Result.andThen_ok, invoke, callFunc, program, Sem.run, hfu, hent.2, hb, Bool.false_eq_true, if_false, Array.empty_append]
  let S' : Nat → Prop := fun b => c.S b ∨ (PV.freeL (cl.args.toList.map (pev σ) ++ caps) = false ∧ c.blocks b)
  have hrep : ∀ (i : Nat) pv, (PV.viewL (cl.args.toList.map (pev σ) ++ caps))[i]? = some pv → RF w S' pv ((cl.args.map a.eval ++ cv).toList.getD i undef) := by
    intro i pv hg
    rw [viewL_get] at hg
    simp only [Option.map_eq_some_iff] at hg
    obtain ⟨p, hp, rfl⟩ := hg
    have rp : RV P w c p ((cl.args.map a.eval ++ cv).toList.getD i undef) := by
      rw [List.getD_eq_getElem?_getD, Array.toList_append]
      by_cases hi : i < cl.args.size
      · rw [List.getElem?_append_left (by simpa using hi)] at hp
        rw [List.getElem?_append_left (by simpa using hi)]
        simp only [List.getElem?_map, Option.map_eq_some_iff] at hp
        obtain ⟨y, hy, rfl⟩ := hp
        simp only [Array.toList_map, List.getElem?_map, hy, Option.map_some, Option.getD_some]
        exact h.ev y
      · rw [List.getElem?_append_right (by simp; omega)] at hp
        rw [List.getElem?_append_right (by simp; omega)]
        simp only [List.length_map, Array.length_toList, Array.toList_map] at hp ⊢
        have := hcr _ p hp
        simpa [Array.getD_eq_getD_getElem?] using this
    cases hfl : PV.freeL (cl.args.toList.map (pev σ) ++ caps) with
    | true => exact (rp.toRF (freeL_get hfl hp)).view.same (fun _ _ => rfl) fun b hb => .inl hb
    | false => exact rp.view.same (fun _ _ => rfl) fun b hb => hb.imp id fun hb => ⟨hfl, hb⟩
  have hS' : ∀ b, S' b → b < w.heap.size := fun b hb => by
    rcases hb with q | ⟨_, g, k, q1, rfl⟩
    · exact h.ok.hS b q
    · exact (h.ok.hD g k q1).2.1
  have hcalls := hcall w S' (cl.args.map a.eval ++ cv).toList hS' (by rw [viewL_length]; simp [hcn]) hrep
  unfold Oper.wp
  rw [hrun, Oper.upon_enter]
  rw [Array.toArray_toList] at hcalls
  refine hcalls.mono fun e w' he => ?_
  obtain ⟨v, c', rfl, hb, hs1, hs2, hok, hv⟩ := he
  simp only
  have hsz : w.heap.size ≤ w'.heap.size := hb.size
  -- the result as it is seen
  have hnew : ∀ b, c'.blocks b → w.heap.size ≤ b ∧ b < w'.heap.size := fun b ⟨g, k, q1, q2⟩ => by
    have := hok.hD g k q1
    rw [q2] at this
    exact ⟨this.1, this.2.1⟩
  rcases hk with hk | ⟨g, e, es, dd, rfl, hdst, hk⟩
  · -- for good
    have inv' := (h.ext hb).more (fun b => c.S b ∨ (w.heap.size ≤ b ∧ b < w'.heap.size)) (fun b hb => .inl hb) (fun b hb' => by rcases hb' with q | q; exact Nat.lt_of_lt_of_le (h.ok.hS b q) hsz; exact q.2)
      (fun b hb' => by rcases hb' with q | q; exact h.sup b q; exact .inr (h.below.mine q.1)) (fun g k hg hb' => by rcases hb' with q | q; exact (h.ok.hD g k hg).2.2 q; have := (h.ok.hD g k hg).2.1; omega)
    refine hn _ _ _ _ hk (inv'.put o.dst hd (.free _ _ ?_))
    rcases hfree with hfr | hfr
    · refine hv.view.same (fun _ _ => rfl) fun b hb' => ?_
      rcases hb' with q | q
      · rcases hs2 b q with q' | q'
        · rcases q' with q' | q'
          · exact .inl q'
          · rw [hfr] at q'; cases q'.1
        · exact .inr ⟨q', hok.hS b q⟩
      · exact .inr (hnew b q)
    · exact hv.fresh (fun b hb' => .inr (hnew b hb')) hfr
  · -- as a row of one's own
    have hv2 : ∃ xs, 0 < tSize P e ∧ (∀ l ∈ es, l.length = tSize P e) ∧ w'.ownsRow 0 e (tSize P e) v es.length xs ∧ (∀ b, v.ownBlock = some b → c'.D g true ∧ c'.τ g = b) ∧
        (∀ i j pv, getE es i j = some pv → (xs.getD (i * tSize P e + j) undef).oneCell' = true) ∧ (∀ i j pv, getE es i j = some pv → RF w' c'.S pv (xs.getD (i * tSize P e + j) undef)) := by
      cases hv with
      | free _ _ hf => cases hf
      | own g e es v xs hk0 hk ho hb h1 hr => exact ⟨xs, hk0, hk, ho, hb, h1, hr⟩
    obtain ⟨xs, hk0, hkl, ho, hob, h1, hr⟩ := hv2
    have hSn : ∀ b, c'.S b → ¬ (v.ownBlock = some b) := fun b hS hb' => by
      obtain ⟨q1, q2⟩ := hob b hb'
      exact (hok.hD g true q1).2.2 (q2 ▸ hS)
    -- the elements, by blocks that the caller may read alone
    have helem : ∀ i j pv, getE es i j = some pv → RF w' (fun b => c.S b ∨ (w.heap.size ≤ b ∧ b < w'.heap.size ∧ v.ownBlock ≠ some b)) pv (xs.getD (i * tSize P e + j) undef) := by
      intro i j pv hg
      rcases hfree with hfr | hfr
      · refine (hr i j pv hg).same (fun _ _ => rfl) fun b q => ?_
        rcases hs2 b q with q' | q'
        · rcases q' with q' | q'
          · exact .inl q'
          · rw [hfr] at q'; cases q'.1
        · exact .inr ⟨q', hok.hS b q, hSn b q⟩
      · rw [PV.fresh] at hfr
        exact lits_RF hfr hg (hr i j pv hg)
    have inv' := (h.ext hb).more (fun b => c.S b ∨ (w.heap.size ≤ b ∧ b < w'.heap.size ∧ v.ownBlock ≠ some b)) (fun b hb => .inl hb) (fun b hb' => by rcases hb' with q | q; exact Nat.lt_of_lt_of_le (h.ok.hS b q) hsz; exact q.2.1)
      (fun b hb' => by rcases hb' with q | q; exact h.sup b q; exact .inr (h.below.mine q.1)) (fun g k hg hb' => by rcases hb' with q | q; exact (h.ok.hD g k hg).2.2 q; have := (h.ok.hD g k hg).2.1; omega)
    have fin : ∀ c2 : Ctx, c2.Ok w0.M w' → (∀ b, c2.S b ↔ (c.S b ∨ (w.heap.size ≤ b ∧ b < w'.heap.size ∧ v.ownBlock ≠ some b))) → (∀ g' k, g' ≠ dd → c.D g' k → c2.D g' k ∧ c2.τ g' = c.τ g') → (∀ b, v.ownBlock = some b → c2.D dd true ∧ c2.τ dd = b) →
        next (a.put o.dst v) w' := by
      intro c2 ok2 hS2 hD2 hb2
      refine hn _ _ _ c2 hk ?_
      rw [hdst]
      have keep : ∀ i, RV P w' c2 ((σ.map (PV.kill dd)).get i) (a.tmps.getD i undef) := fun i => by
        rw [get_map _ rfl]
        have q := (inv'.slots i).kill dd
        refine RV.keep' (c' := c2) (T := fun g => g ≠ dd) ?_ ?_ ?_ q ?_
        · exact fun _ _ => rfl
        · exact fun b hb => (hS2 b).2 hb
        · exact fun g k hg hgk => ⟨rfl, hD2 g k hg hgk⟩
        · intro g hg e; subst e; rw [has_kill] at hg; cases hg
      have inv1 : Inv P w0 S0 N (σ.map (PV.kill dd)) a w' c2 := ⟨inv'.below, ok2, fun b hb => (hS2 b).2 (inv'.sub b hb), fun b hb => inv'.sup b ((hS2 b).1 hb), keep, h.size, h.defers⟩
      exact inv1.put (some dd) (by rw [← hdst]; exact hd) (.own dd e es v xs hk0 hkl ho hb2 h1 fun i j pv hg => (helem i j pv hg).same (fun _ _ => rfl) fun b hb => (hS2 b).2 hb)
    cases hv' : v.ownBlock with
    | none => exact fin _ inv'.ok (fun b => by rw [hv']) (fun g' k _ hg => ⟨hg, rfl⟩) (fun b hb => by rw [hv'] at hb; cases hb)
    | some b =>
      obtain ⟨q1, q2⟩ := hob b hv'
      have hbb := hok.hD g true q1
      rw [q2] at hbb
      have base := inv'.ok
      refine fin (Ctx.at_ ⟨_, c.τ, c.D⟩ dd b true) (at_ok base (Nat.le_refl _) ⟨h.below.mine hbb.1, hbb.2.1, fun hS => ?_⟩ fun g' k' _ hg' e => ?_) (fun b => Iff.rfl) (fun g' k hne hg => ?_) (fun b' hb' => ?_)
      · rcases hS with q | q
        · have := h.ok.hS b q; omega
        · exact q.2.2 hv'
      · have := (h.ok.hD g' k' hg').2.1
        simp only at e
        omega
      · simp only [Ctx.at_, hne, if_false]; exact ⟨hg, trivial⟩
      · rw [hv'] at hb'
        injection hb' with hb'
        subst hb'
        simp [Ctx.at_]

theorem opE_ok {eqn : TypeId → Nat} (hE : ∀ t, 0 < eqn t → EqC P t (eqn t)) {o : Oper} {K : St → Prop} (hK : opE P eqn o σ K) (h : Inv P w0 S0 N σ a w c) (hd : ∀ k, o.dst = some k → k < N)
    (next : Act → World → Prop) (Q : Exit → Act → World → Prop) (hn : ∀ σ' a' w' c', K σ' → Inv P w0 S0 N σ' a' w' c' → next a' w') : o.wp P a w next Q := by
  unfold opE at hK
  rcases hK with hK | hK
  case inr => exact hK _ _ _ _ _ _ h hd next Q hn
  split at hK
  · rename_i fa hc
    exact callE_ok hc hK h hd next Q hn
  · unfold optE at hK
    split at hK
    · rename_i r hr
      exact peop_ok hE h hd hr next Q fun a' w' c' hi => hn _ _ _ _ hK hi
    · exact hK.elim

theorem pguard_ok {ops : Array Oper} {o : Oper} {b : Bool} (h : Inv P w0 S0 N σ a w c) (hg : pguard ops σ o = some b) : Region.wanted o (yielded ops a.tmps) = b := by
  unfold pguard at hg
  unfold Region.wanted
  split at hg
  · injection hg with hg; rename_i e; rw [e]; exact hg
  · rename_i j want e
    rw [e]
    simp only
    split at hg
    · rename_i d hd
      have hy : yielded ops a.tmps j = match a.tmps[d]? with | some (.bool b) => some b | _ => none := by
        unfold yielded
        rw [hd]
        rfl
      have hs := h.slots d
      split at hg
      · rename_i t ht
        injection hg with hg
        rw [ht] at hs
        have hv := hs.lit_eq
        rw [hy]
        have : a.tmps[d]? = some (.bool t) := by
          rw [Array.getD_eq_getD_getElem?] at hv
          cases hq : a.tmps[d]? with
          | none => rw [hq] at hv; cases hv
          | some u => rw [hq] at hv; simp at hv; rw [hv]
        rw [this, ← hg]
        simp
      · rename_i u hnb ht
        injection hg with hg
        rw [ht] at hs
        have hv := hs.lit_eq
        rw [hy, ← hg]
        have : (match a.tmps[d]? with | some (.bool b) => some b | _ => none) = none := by
          cases hq : a.tmps[d]? with
          | none => rfl
          | some u' =>
            rw [Array.getD_eq_getD_getElem?, hq] at hv
            simp at hv
            subst hv
            cases u' <;> first | rfl | exact absurd rfl (hnb _)
        rw [this]
        rfl
      · cases hg
    · rename_i hd
      injection hg with hg
      have hy : yielded ops a.tmps j = none := by
        unfold yielded
        rw [hd]
        rfl
      rw [hy, ← hg]
      rfl

/-- The operations of a region, one after another. -/
theorem evOps_ok {eqn : TypeId → Nat} (hE : ∀ t, 0 < eqn t → EqC P t (eqn t)) {ops : Array Oper} (hall : ∀ o ∈ ops.toList, ∀ k, o.dst = some k → k < N) (Q : Exit → Act → World → Prop) : ∀ (l : List Oper) (m : Nat) {σ : St} {a : Act} {w : World} {c : Ctx} {K : St → Prop},
    ops.toList.drop m = l → evOps P eqn ops l σ K → Inv P w0 S0 N σ a w c → (∀ σ' a' w' c', K σ' → Inv P w0 S0 N σ' a' w' c' → Q .normal a' w') → wpOps P ops Q (List.range' m l.length) a w
  | [], m, σ, a, w, c, K, _, hK, h, hn => by
    simp only [List.length_nil, List.range'_zero, wpOps]
    exact hn _ _ _ _ hK h
  | o :: rest, m, σ, a, w, c, K, hdrop, hK, h, hn => by
    have hm : ops.toList[m]? = some o := by
      have := congrArg (fun l => l[0]?) hdrop
      simpa [List.getElem?_drop] using this
    have hrest : ops.toList.drop (m + 1) = rest := by
      have := congrArg List.tail hdrop
      simpa [List.tail_drop] using this
    have hmA : ops[m]? = some o := by rw [← Array.getElem?_toList]; exact hm
    simp only [List.length_cons, List.range'_succ, wpOps, hmA]
    simp only [evOps, optE] at hK
    split at hK
    · rename_i b hg
      cases b with
      | true =>
        rw [if_pos (pguard_ok h hg)]
        exact .inl (opE_ok hE hK h (hall o (List.mem_of_getElem? hm)) _ _ fun σ' a' w' c' hk hi => evOps_ok hE hall Q rest (m + 1) hrest hk hi hn)
      | false =>
        rw [if_neg (by rw [pguard_ok h hg]; simp)]
        exact evOps_ok hE hall Q rest (m + 1) hrest hK (h.put o.dst (hall o (List.mem_of_getElem? hm)) (.free _ _ (.lit _))) hn
    · exact hK.elim

end
end Go.VI
