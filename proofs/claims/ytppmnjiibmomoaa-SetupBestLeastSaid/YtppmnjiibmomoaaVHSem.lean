/- Statements by their meaning, and rules for proofs that a program prints: each step names what it comes to, and the kernel reckons. -/
import Derived.Test.YtppmnjiibmomoaaVHEnter
import Derived.Scope
set_option linter.unusedVariables false
set_option linter.unusedSimpArgs false
set_option linter.unusedSectionVars false
namespace Go.VI
open Go.RowKit

inductive PX where
  | normal
  | exit (id : Nat)
  | ret

/-- σ' says no more than σ. -/
def Sub (σ' σ : St) : Prop := (∀ i, σ'.get i = .undef ∨ σ'.get i = σ.get i) ∧ ∀ g o, σ'.hget g = some o → σ.hget g = some o

/-- all slots that are written lie in the frame -/
def dstOk (N : Nat) : Code → Bool
  | .region _ ops _ => ops.toList.all fun o => match o.dst with | some d => decide (d < N) | none => true
  | .seq a b => dstOk N a && dstOk N b
  | .cond _ a b => dstOk N a && dstOk N b
  | .block _ c => dstOk N c
  | .loop c => dstOk N c
  | .scope c => dstOk N c
  | _ => true

def pres1 (P : Program) (σ : St) : ResultVar → Option PV
  | .tmp t => some (σ.get t)
  | .cell t ty => match tAgg P ty with
    | some agg => pload agg (tSize P ty) σ.h (σ.get t)
    | none => none
def presL (P : Program) (σ : St) : List ResultVar → Option (List PV)
  | [] => some []
  | x :: xs => match pres1 P σ x, presL P σ xs with
    | some v, some vs => some (v :: vs)
    | _, _ => none
def pres (P : Program) (σ : St) (l : List ResultVar) : Option PV :=
  match presL P σ l with
  | some [v] => some v
  | some vs => some (.tup vs)
  | none => none
def initSt : Nat → List PV → SL
  | _, [] => []
  | i, v :: vs => (i, v) :: initSt (i + 1) vs


section
variable {P : Program} {E : Ent} {S0 : Nat → Prop} {N : Nat} {σ : St} {a : Act} {w : World} {c : Ctx}

theorem pguard_ok {ops : Array Oper} {o : Oper} {b : Bool} (h : Inv P E S0 N σ a w c) (hg : pguard ops σ o = some b) : Region.wanted o (yielded ops a.tmps) = b := by
  unfold pguard at hg
  unfold Region.wanted
  split at hg
  · injection hg with hg; rename_i e; rw [e]; exact hg
  · rename_i j want e
    rw [e]
    simp only
    split at hg
    · rename_i d hd
      have hy : yielded ops a.tmps j = match a.tmps[d]? with | some (.bool b) => some b | _ => none := by
        unfold yielded
        rw [hd]
        rfl
      have hs := h.slots d
      split at hg
      · rename_i t ht
        injection hg with hg
        rw [ht] at hs
        have hv := hs.lit_eq
        rw [hy]
        have : a.tmps[d]? = some (.bool t) := by
          rw [Array.getD_eq_getD_getElem?] at hv
          cases hq : a.tmps[d]? with
          | none => rw [hq] at hv; cases hv
          | some u => rw [hq] at hv; simp at hv; rw [hv]
        rw [this, ← hg]
        simp
      · rename_i u hnb ht
        injection hg with hg
        rw [ht] at hs
        have hv := hs.lit_eq
        rw [hy, ← hg]
        have : (match a.tmps[d]? with | some (.bool b) => some b | _ => none) = none := by
          cases hq : a.tmps[d]? with
          | none => rfl
          | some u' =>
            rw [Array.getD_eq_getD_getElem?, hq] at hv
            simp at hv
            subst hv
            cases u' <;> first | rfl | exact absurd rfl (hnb _)
        rw [this]
        rfl
      · cases hg
    · rename_i hd
      injection hg with hg
      have hy : yielded ops a.tmps j = none := by
        unfold yielded
        rw [hd]
        rfl
      rw [hy, ← hg]
      rfl

/-- How an exit of the model and one of the evaluator go together. -/
def PX.like : PX → Exit → Prop
  | .normal, .normal => True
  | .exit i, .exit j => i = j
  | .ret, .ret => True
  | _, _ => False

theorem sub_inv {σ' : St} (hs : Sub σ' σ) (h : Inv P E S0 N σ a w c) : Inv P E S0 N σ' a w c := h.weak hs.1 hs.2

theorem initSt_get (vs : List PV) : ∀ i k, (initSt i vs).get k = if i ≤ k then (vs[k - i]?).getD .undef else .undef := by
  induction vs with
  | nil => intro i k; simp [initSt, SL.get]
  | cons v vs ih =>
    intro i k
    simp only [initSt, SL.get]
    by_cases e : k = i
    · subst e; simp
    · rw [if_neg e, ih]
      by_cases h : i + 1 ≤ k
      · rw [if_pos h, if_pos (by omega), show k - i = (k - (i + 1)) + 1 from by omega, List.getElem?_cons_succ]
      · rw [if_neg h, if_neg (by omega)]

theorem pres1_ok {x : ResultVar} {pv : PV} (h : Inv P E S0 N σ a w c) (hp : pres1 P σ x = some pv) :
    ∃ v, (match x with | .tmp t => pure (a.tmps.getD t undef) | .cell ad t => do loadVar t (← asAddr (a.tmps.getD ad undef)) : Sem Value).run P w = .ok v w ∧ RV P w c pv v := by
  unfold pres1 at hp
  split at hp
  · rename_i t
    injection hp with hp
    subst hp
    exact ⟨_, rfl, h.slots t⟩
  · rename_i ad t
    split at hp
    case h_2 => cases hp
    rename_i agg hagg
    obtain ⟨v, q1, q2⟩ := pload_ok hagg h (h.slots ad) hp
    refine ⟨v, ?_, q2⟩
    have hpt : ∃ p, a.tmps.getD ad undef = .pointer (some p) := by
      generalize a.tmps.getD ad undef = X at q1
      cases X with
      | pointer p => cases p with
        | some p => exact ⟨p, rfl⟩
        | none => simp [Instr.loadAt, Instr.sureAddr, stuck, Sem.run_bind, Sem.run, Result.andThen] at q1
      | _ => simp [Instr.loadAt, Instr.sureAddr, stuck, Sem.run_bind, Sem.run, Result.andThen] at q1
    obtain ⟨p, hp'⟩ := hpt
    rw [hp'] at q1 ⊢
    simpa [Instr.loadAt, Instr.sureAddr, asAddr, Sem.run_bind] using q1
theorem presL_ok : ∀ {l : List ResultVar} {vs : List PV}, Inv P E S0 N σ a w c → presL P σ l = some vs →
    ∃ us : List Value, (l.mapM fun x => (match x with | .tmp t => pure (a.tmps.getD t undef) | .cell ad t => do loadVar t (← asAddr (a.tmps.getD ad undef)) : Sem Value)).run P w = .ok us w ∧ us.length = vs.length ∧ ∀ (i : Nat) pv, vs[i]? = some pv → RV P w c pv (us.getD i undef)
  | [], vs, _, hp => by
    simp [presL] at hp
    subst hp
    exact ⟨[], by simp [List.mapM_nil], rfl, by simp⟩
  | x :: l, vs, h, hp => by
    simp only [presL] at hp
    split at hp
    case h_2 => cases hp
    rename_i v ws h1 h2
    injection hp with hp
    subst hp
    obtain ⟨u, q1, q2⟩ := pres1_ok h h1
    obtain ⟨us, q3, q4, q5⟩ := presL_ok h h2
    refine ⟨u :: us, ?_, by simp [q4], fun i pv hg => ?_⟩
    · simp only [List.mapM_cons, Sem.run_bind, q1, Result.andThen_ok, q3, Sem.run_pure]
    · cases i with
      | zero => simp at hg; subst hg; exact q2
      | succ i => simpa using q5 i pv (by simpa using hg)
theorem pres_ok {fn : Func} {r : PV} (h : Inv P E S0 N σ a w c) (hp : pres P σ fn.results.toList = some r) : ∃ v, (results fn a.tmps).run P w = .ok v w ∧ RV P w c r v := by
  unfold pres at hp
  have main : ∀ vs, presL P σ fn.results.toList = some vs → ∃ us : List Value, us.length = vs.length ∧ (∀ (i : Nat) pv, vs[i]? = some pv → RV P w c pv (us.getD i undef)) ∧ (results fn a.tmps).run P w = .ok (if hh : us.toArray.size = 1 then us.toArray[0] else .tuple us.toArray) w := by
    intro vs hv
    obtain ⟨us, q1, q2, q3⟩ := presL_ok h hv
    refine ⟨us, q2, q3, ?_⟩
    unfold results
    rw [Array.mapM_eq_mapM_toList]
    simp only [Sem.run_bind, map_eq_pure_bind, Sem.run_pure]
    erw [q1]
    simp only [Result.andThen_ok]
  split at hp
  · rename_i v hv
    injection hp with hp
    subst hp
    obtain ⟨us, q1, q2, q3⟩ := main _ hv
    match us, q1 with
    | [u], _ => exact ⟨u, by simpa using q3, by simpa using q2 0 v rfl⟩
  · rename_i vs hne hv
    injection hp with hp
    subst hp
    obtain ⟨us, q1, q2, q3⟩ := main _ hv
    have hl : us.toArray.size ≠ 1 := by
      intro e
      simp at e
      rw [q1] at e
      match vs, e with
      | [v], _ => exact hne v rfl
    rw [dif_neg hl] at q3
    exact ⟨_, q3, .tup vs _ (by simpa using q1) fun i pv hg => by simpa [Array.getD_eq_getD_getElem?] using q2 i pv hg⟩
  · cases hp

end

/-- A program, with what is known of its equalities. -/
structure Prg where
  P : Program
  eqn : TypeId → Nat
  hE : ∀ t, 0 < eqn t → EqC P t (eqn t)
  hmix : P.follows .mixedOrders = true

/-- A statement from state σ ends as K says. -/
def SEM (G : Prg) (cd : Code) (σ : St) (K : PX → St → Prop) : Prop :=
  ∀ (E : Ent) (S0 : Nat → Prop) (N : Nat) (a : Act) (w : World) (c : Ctx), dstOk N cd = true → Inv G.P E S0 N σ a w c →
    cd.wp G.P (fun e a' w' => ∃ x σ' c', PX.like x e ∧ K x σ' ∧ Inv G.P E S0 N σ' a' w' c') a w

def knd : Code → Nat
  | .skip => 0
  | .region _ _ false => 1
  | .region _ _ true => 2
  | .seq _ _ => 3
  | .cond _ _ _ => 4
  | .block _ _ => 5
  | .loop _ => 6
  | .exit _ => 7
  | .ret => 8
  | .scope _ => 10
  | .label _ => 11
  | _ => 9
def cL : Code → Code
  | .seq a _ => a
  | .cond _ a _ => a
  | .block _ c => c
  | .loop c => c
  | .scope c => c
  | _ => .skip
def cR : Code → Code
  | .seq _ b => b
  | .cond _ _ b => b
  | _ => .skip
def cOps : Code → Array Oper
  | .region _ ops _ => ops
  | _ => #[]
def cId : Code → Nat
  | .block i _ => i
  | .exit i => i
  | _ => 0
def cCnd : Code → Operand
  | .cond c _ _ => c
  | _ => .const undef

section
variable {G : Prg} {cd : Code} {σ : St} {K : PX → St → Prop}

theorem sem_sub {σ' : St} (hs : Sub σ' σ) (h : SEM G cd σ' K) : SEM G cd σ K := fun E S0 N a w c hd hi => h E S0 N a w c hd (sub_inv hs hi)
theorem sem_mono {K' : PX → St → Prop} (hk : ∀ x τ, K' x τ → K x τ) (h : SEM G cd σ K') : SEM G cd σ K := fun E S0 N a w c hd hi =>
  wp_mono (h E S0 N a w c hd hi) fun _ _ _ ⟨x, σ', c', q1, q2, q3⟩ => ⟨x, σ', c', q1, hk _ _ q2, q3⟩

/-- the slots and objects of σ', as σ has them -/
def atS (σ' σ : St) : SL × List (Nat × Option HO) := (List.map (fun (p : Nat × PV) => (p.1, σ.get p.1)) σ'.s, List.map (fun (p : Nat × HO) => (p.1, σ.hget p.1)) σ'.h)
def asS (σ' : St) : SL × List (Nat × Option HO) := (σ'.s, List.map (fun (p : Nat × HO) => (p.1, some p.2)) σ'.h)
/-- what is said, is so -/
theorem sub_map {σ' : St} (h : atS σ' σ = asS σ') : Sub σ' σ := by
  obtain ⟨s, hp⟩ := σ'
  simp only [atS, asS, Prod.mk.injEq] at h
  obtain ⟨h1, h2⟩ := h
  refine ⟨fun i => ?_, fun g o hg => ?_⟩
  · show SL.get s i = .undef ∨ SL.get s i = σ.get i
    clear h2
    induction s with
    | nil => left; rfl
    | cons p r ih =>
      obtain ⟨j, v⟩ := p
      simp only [List.map_cons, List.cons.injEq, Prod.mk.injEq] at h1
      obtain ⟨⟨-, h1⟩, h2⟩ := h1
      simp only [SL.get]
      by_cases e : i = j
      · subst e; right; simp [h1]
      · rw [if_neg e]; exact ih h2
  · replace hg : HP.get hp g = some o := hg
    clear h1
    induction hp with
    | nil => cases hg
    | cons p r ih =>
      obtain ⟨j, v⟩ := p
      simp only [List.map_cons, List.cons.injEq, Prod.mk.injEq] at h2
      obtain ⟨⟨-, h1⟩, h2⟩ := h2
      simp only [HP.get] at hg
      split at hg
      · rename_i hb
        have := Nat.eq_of_beq_eq_true hb
        subst this
        rw [h1]; exact hg
      · exact ih h2 hg
theorem sub_refl (σ : St) : Sub σ σ := ⟨fun _ => .inr rfl, fun _ _ h => h⟩
theorem sub_trans {σ' σ'' : St} (h : Sub σ'' σ') (k : Sub σ' σ) : Sub σ'' σ := ⟨fun i => by
  rcases h.1 i with e | e
  · exact .inl e
  · rw [e]; exact k.1 i, fun g o hg => k.2 g o (h.2 g o hg)⟩

theorem sem_set (σ' : St) (h : atS σ' σ = asS σ') (s : SEM G cd σ' K) : SEM G cd σ K := sem_sub (sub_map h) s

def thenK (G : Prg) (b : Code) (K : PX → St → Prop) : PX → St → Prop
  | .normal, σ => SEM G b σ K
  | .exit i, σ => K (.exit i) σ
  | .ret, σ => K .ret σ
def blkK (id : Nat) (K : PX → St → Prop) : PX → St → Prop
  | .exit i, σ => if i = id then K .normal σ else K (.exit i) σ
  | .normal, σ => K .normal σ
  | .ret, σ => K .ret σ

theorem th_normal {b : Code} (h : SEM G b σ K) : thenK G b K .normal σ := h
theorem th_exit {b : Code} {i : Nat} (h : K (.exit i) σ) : thenK G b K (.exit i) σ := h
theorem th_ret {b : Code} (h : K .ret σ) : thenK G b K .ret σ := h
theorem bl_hit {id i : Nat} (e : id = i) (h : K .normal σ) : blkK id K (.exit i) σ := by subst e; simp only [blkK, if_true]; exact h
theorem bl_miss {id i : Nat} (e : Nat.beq i id = false) (h : K (.exit i) σ) : blkK id K (.exit i) σ := by
  have : i ≠ id := fun q => by subst q; simp at e
  simp only [blkK, if_neg this]; exact h
theorem bl_normal {id : Nat} (h : K .normal σ) : blkK id K .normal σ := h
theorem bl_ret {id : Nat} (h : K .ret σ) : blkK id K .ret σ := h

theorem sem_skip (hk : knd cd = 0) (h : K .normal σ) : SEM G cd σ K := by
  cases cd <;> simp [knd] at hk
  · exact fun E S0 N a w c _ hi => wp_skip ⟨.normal, σ, c, trivial, h, hi⟩
  · rename_i b; cases b <;> simp [knd] at hk
theorem sem_exit (i : Nat) (hk : knd cd = 7) (hi : cId cd = i) (h : K (.exit i) σ) : SEM G cd σ K := by
  cases cd <;> simp [knd] at hk
  · rename_i b; cases b <;> simp [knd] at hk
  · simp only [cId] at hi; subst hi
    exact fun E S0 N a w c _ hi => wp_exit ⟨.exit _, σ, c, rfl, h, hi⟩
theorem sem_ret (hk : knd cd = 8) (h : K .ret σ) : SEM G cd σ K := by
  cases cd <;> simp [knd] at hk
  · rename_i b; cases b <;> simp [knd] at hk
  · exact fun E S0 N a w c _ hi => wp_ret ⟨.ret, σ, c, trivial, h, hi⟩
theorem sem_seq (hk : knd cd = 3) (h : SEM G (cL cd) σ (thenK G (cR cd) K)) : SEM G cd σ K := by
  cases cd <;> simp [knd] at hk
  · rename_i b; cases b <;> simp [knd] at hk
  · rename_i x y
    intro E S0 N a w c hd hi
    simp only [dstOk, Bool.and_eq_true] at hd
    refine wp_seq (wp_mono (h E S0 N a w c hd.1 hi) fun e a' w' he => ?_)
    obtain ⟨px, σ', c', hl, hk, hi⟩ := he
    cases px <;> cases e <;> simp only [PX.like] at hl
    · exact hk E S0 N _ _ _ hd.2 hi
    · exact ⟨.exit _, σ', c', by rw [PX.like]; exact hl, hk, hi⟩
    · exact ⟨.ret, σ', c', trivial, hk, hi⟩
theorem sem_cond (b : Bool) (hk : knd cd = 4) (hb : pev σ (cCnd cd) = .lit (.bool b)) (h1 : b = true → SEM G (cL cd) σ K) (h2 : b = false → SEM G (cR cd) σ K) : SEM G cd σ K := by
  cases cd <;> simp [knd] at hk
  · rename_i b; cases b <;> simp [knd] at hk
  · rename_i x y z
    intro E S0 N a w c hd hi
    simp only [dstOk, Bool.and_eq_true] at hd
    have hv := hi.ev x
    simp only [cCnd] at hb
    rw [hb] at hv
    exact wp_cond_split hv.lit_eq (fun e => h1 e E S0 N a w c hd.1 hi) (fun e => h2 e E S0 N a w c hd.2 hi)
theorem sem_condT (hk : knd cd = 4) (hb : pev σ (cCnd cd) = .lit (.bool true)) (h1 : SEM G (cL cd) σ K) : SEM G cd σ K := sem_cond true hk hb (fun _ => h1) (fun e => nomatch e)
theorem sem_condF (hk : knd cd = 4) (hb : pev σ (cCnd cd) = .lit (.bool false)) (h2 : SEM G (cR cd) σ K) : SEM G cd σ K := sem_cond false hk hb (fun e => nomatch e) (fun _ => h2)
theorem sem_block (hk : knd cd = 5) (h : SEM G (cL cd) σ (blkK (cId cd) K)) : SEM G cd σ K := by
  cases cd <;> simp [knd] at hk
  · rename_i b; cases b <;> simp [knd] at hk
  · rename_i id x
    intro E S0 N a w c hd hi
    refine wp_block (wp_mono (h E S0 N a w c (by rw [dstOk] at hd; exact hd) hi) fun e a' w' he => ?_)
    obtain ⟨px, σ', c', hl, hk, hi⟩ := he
    cases px <;> cases e <;> simp only [PX.like] at hl
    · exact ⟨.normal, σ', c', trivial, hk, hi⟩
    · subst hl
      simp only [Exit.inBlock]
      rename_i jd
      replace hk : if jd = id then K PX.normal σ' else K (PX.exit jd) σ' := hk
      by_cases e : jd = id
      · rw [if_pos e] at hk ⊢; exact ⟨.normal, σ', c', trivial, hk, hi⟩
      · rw [if_neg e] at hk ⊢; exact ⟨.exit _, σ', c', rfl, hk, hi⟩
    · exact ⟨.ret, σ', c', trivial, hk, hi⟩

theorem sem_scope (hk : knd cd = 10) (h : SEM G (cL cd) σ K) : SEM G cd σ K := by
  cases cd <;> simp [knd] at hk
  · rename_i b; cases b <;> simp [knd] at hk
  · rename_i x
    intro E S0 N a w c hd hi
    refine wp_scope_straight (wp_mono (h E S0 N a w c (by rw [dstOk] at hd; exact hd) hi) fun e a' w' he => ?_)
    obtain ⟨px, σ', c', hl, hk, hi⟩ := he
    cases px <;> cases e <;> simp only [PX.like] at hl
    · exact ⟨.normal, σ', c', trivial, hk, hi⟩
    · exact ⟨.exit _, σ', c', hl, hk, hi⟩
    · exact ⟨.ret, σ', c', trivial, hk, hi⟩
theorem sem_label (hk : knd cd = 11) (h : K .normal σ) : SEM G cd σ K := by
  cases cd <;> simp [knd] at hk
  · rename_i b; cases b <;> simp [knd] at hk
  · intro E S0 N a w c hd hi
    exact wp_label ⟨.normal, σ, c, trivial, h, hi⟩

/-! ### loops -/
/-- how a round of the body must end -/
def LK {S R : Type} (emb : S → St) (out : R → PX × St) (t : S ⊕ R) (px : PX) (τ : St) : Prop := match t with
  | .inl s' => px = .normal ∧ Sub (emb s') τ
  | .inr r => px = (out r).1 ∧ Sub (out r).2 τ
theorem lk_next {S R : Type} {emb : S → St} {out : R → PX × St} {s' : S} {τ : St} (h : atS (emb s') τ = asS (emb s')) : LK emb out (.inl s') .normal τ := ⟨rfl, sub_map h⟩
theorem lk_out {S R : Type} {emb : S → St} {out : R → PX × St} {r : R} {px : PX} {τ : St} (e : (out r).1 = px) (h : atS (out r).2 τ = asS (out r).2) : LK emb out (.inr r) px τ := ⟨e.symm, sub_map h⟩

theorem sem_loop {S R : Type} (emb : S → St) (out : R → PX × St) (body : S → Option (S ⊕ R)) (s : S) (r : R) (hk : knd cd = 6) (h0 : atS (emb s) σ = asS (emb s)) (h : loopT body s = some r)
    (hbody : ∀ s t, body s = some t → SEM G (cL cd) (emb s) (LK emb out t)) (hout : ∀ r, (out r).1 ≠ .normal) (hK : ∀ τ, Sub (out r).2 τ → K (out r).1 τ) : SEM G cd σ K := by
  refine sem_set (emb s) h0 ?_
  cases cd <;> simp [knd] at hk
  · rename_i b; cases b <;> simp [knd] at hk
  rename_i x
  intro E S0 N a w c hd hi
  obtain ⟨n, hn⟩ := loopT_iff.1 h
  refine wp_loop_rounds n ?_
  clear h0 h
  induction n generalizing s a w c with
  | zero => cases hn
  | succ n ih =>
    simp only [iterT] at hn
    rw [rounds_succ]
    cases hb : body s with
    | none => rw [hb] at hn; cases hn
    | some t =>
      rw [hb] at hn
      refine wp_mono (hbody s t hb E S0 N a w c (by rw [dstOk] at hd; exact hd) hi) fun e a' w' he => ?_
      obtain ⟨px, σ', c', hl, hk, hi⟩ := he
      cases t with
      | inl s' =>
        obtain ⟨rfl, hs⟩ := hk
        cases e <;> simp only [PX.like] at hl
        exact ih s' _ _ _ (sub_inv hs hi) hn
      | inr r' =>
        simp only [Option.some.injEq] at hn
        subst hn
        obtain ⟨he, hs⟩ := hk
        have hne := hout r'
        have hfin := hK σ' hs
        rw [← he] at hne hfin
        cases px <;> cases e <;> simp only [PX.like] at hl
        · exact absurd rfl hne
        · subst hl; exact ⟨.exit _, σ', c', rfl, hfin, hi⟩
        · exact ⟨.ret, σ', c', trivial, hfin, hi⟩

/-! ### regions -/
/-- The operations from the k-th on. -/
def EVS (G : Prg) (ops : Array Oper) (k : Nat) (σ : St) (K : St → Prop) : Prop :=
  ∀ (E : Ent) (S0 : Nat → Prop) (N : Nat) (a : Act) (w : World) (c : Ctx), (∀ o ∈ ops.toList, ∀ k, o.dst = some k → k < N) → Inv G.P E S0 N σ a w c →
    ∀ (Q : Exit → Act → World → Prop), (∀ σ' a' w' c', K σ' → Inv G.P E S0 N σ' a' w' c' → Q .normal a' w') → wpOps G.P ops Q (List.range' k (ops.size - k)) a w

theorem dstOk_all {N id : Nat} {ops : Array Oper} {d : Bool} (hd : dstOk N (.region id ops d) = true) : ∀ o ∈ ops.toList, ∀ k, o.dst = some k → k < N := fun o ho k hk => by
  have := List.all_eq_true.1 (by rw [dstOk] at hd; exact hd) o ho
  rw [hk] at this
  simpa using this
theorem sem_region (hk : knd cd = 1) (h : EVS G (cOps cd) 0 σ (K .normal)) : SEM G cd σ K := by
  cases cd <;> simp [knd] at hk
  rename_i id ops b
  cases b <;> simp [knd] at hk
  intro E S0 N a w c hd hi
  refine wp_region ?_
  have := h E S0 N a w c (dstOk_all hd) hi (fun e a' w' => ∃ x σ' c', PX.like x e ∧ K x σ' ∧ Inv G.P E S0 N σ' a' w' c') fun σ' a' w' c' hk hi => ⟨.normal, σ', c', trivial, hk, hi⟩
  simp only [cOps, Nat.sub_zero] at this
  rwa [← List.range_eq_range'] at this
section
variable {ops : Array Oper} {k : Nat} {K : St → Prop}
theorem evs_sub {σ' : St} (hs : Sub σ' σ) (h : EVS G ops k σ' K) : EVS G ops k σ K := fun E S0 N a w c hd hi => h E S0 N a w c hd (sub_inv hs hi)
theorem evs_set (σ' : St) (h : atS σ' σ = asS σ') (s : EVS G ops k σ' K) : EVS G ops k σ K := evs_sub (sub_map h) s
theorem evs_end (h : Nat.ble ops.size k = true) (hk : K σ) : EVS G ops k σ K := fun E S0 N a w c hd hi Q hn => by
  have : ops.size - k = 0 := by have := Nat.le_of_ble_eq_true h; omega
  rw [this]
  simp only [List.range'_zero, wpOps]
  exact hn _ _ _ _ hk hi
/-- the k-th operation -/
def opAt (ops : Array Oper) (k : Nat) : Option Oper := ops.toList[k]?
def dstAt (ops : Array Oper) (k : Nat) : Option Nat := (opAt ops k).bind (·.dst)
/-- What is said of an operation by its meaning alone. -/
def OpSem (P : Program) (o : Oper) (σ : St) (K : St → Prop) : Prop :=
  ∀ (E : Ent) (S0 : Nat → Prop) (N : Nat) (a : Act) (w : World) (c : Ctx), Inv P E S0 N σ a w c → (∀ k, o.dst = some k → k < N) →
    ∀ (next : Act → World → Prop) (Q : Exit → Act → World → Prop), (∀ σ' a' w' c', K σ' → Inv P E S0 N σ' a' w' c' → next a' w') → o.wp P a w next Q
theorem evs_one {o : Oper} (ho : opAt ops k = some o) {b : Bool} (hg : pguard ops σ o = some b) (h1 : b = true → OpSem G.P o σ (fun σ' => EVS G ops (k + 1) σ' K)) (h2 : b = false → EVS G ops (k + 1) (setO σ o.dst (.lit undef)) K) : EVS G ops k σ K := by
  intro E S0 N a w c hd hi Q hn
  have hlt : k < ops.size := by
    unfold opAt at ho
    obtain ⟨q, _⟩ := List.getElem?_eq_some_iff.1 ho
    simpa using q
  have e : ops.size - k = (ops.size - (k + 1)) + 1 := by omega
  have hmA : ops[k]? = some o := by rw [← Array.getElem?_toList]; exact ho
  rw [e, List.range'_succ]
  simp only [wpOps, hmA]
  cases b with
  | true =>
    rw [if_pos (pguard_ok hi hg)]
    exact .inl (h1 rfl E S0 N a w c hi (hd o (List.mem_of_getElem? ho)) _ _ fun σ' a' w' c' hk hi' => hk E S0 N a' w' c' hd hi' Q hn)
  | false =>
    rw [if_neg (by rw [pguard_ok hi hg]; simp)]
    exact h2 rfl E S0 N _ w c hd (hi.put o.dst (hd o (List.mem_of_getElem? ho)) (.free _ _ (.lit _))) Q hn
/-- what the k-th operation comes to; none: a call, or stuck -/
def stepAt (G : Prg) (ops : Array Oper) (k : Nat) (σ : St) : Option Res := match opAt ops k with
  | some o => match pguard ops σ o with
    | some true => (match pcallee σ o.op with
      | none => peop G.P G.eqn σ (o.dst.getD 0) o.type o.op
      | some _ => none)
    | some false => some (.val (.lit undef))
    | none => none
  | none => none
theorem evs_op {r : Res} (h : stepAt G ops k σ = some r) (next : EVS G ops (k + 1) (r.put σ (dstAt ops k)) K) : EVS G ops k σ K := by
  unfold stepAt at h
  cases ho : opAt ops k with
  | none => rw [ho] at h; cases h
  | some o =>
    rw [ho] at h
    have hd : dstAt ops k = o.dst := by unfold dstAt; rw [ho]; rfl
    rw [hd] at next
    simp only at h
    cases hg : pguard ops σ o with
    | none => rw [hg] at h; cases h
    | some b =>
      rw [hg] at h
      cases b with
      | true =>
        refine evs_one ho hg (fun _ => ?_) fun e => nomatch e
        simp only at h
        split at h
        · intro E S0 N a w c hi hd nx Q hn
          exact peop_ok G.hE hi hd h nx Q fun a' w' c' hi' => hn _ _ _ _ next hi'
        · cases h
      | false =>
        refine evs_one ho hg (fun e => nomatch e) fun _ => ?_
        simp only [Option.some.injEq] at h
        subst h
        rw [put_eq] at next
        exact next
def runK (G : Prg) (ops : Array Oper) : Nat → Nat → St → Option St
  | _, 0, σ => some σ
  | k, n + 1, σ => match stepAt G ops k σ with
    | some r => runK G ops (k + 1) n (r.put σ (dstAt ops k))
    | none => none
def runD (G : Prg) (ops : Array Oper) (k n : Nat) (σ : St) : St := (runK G ops k n σ).getD ⟨[], []⟩
theorem evs_run (n : Nat) (h : (runK G ops k n σ).isSome = true) (next : EVS G ops (k + n) (runD G ops k n σ) K) : EVS G ops k σ K := by
  induction n generalizing k σ with
  | zero => exact next
  | succ n ih =>
    simp only [runK] at h
    simp only [runD, runK] at next
    cases hs : stepAt G ops k σ with
    | none => rw [hs] at h; cases h
    | some r =>
      rw [hs] at h next
      refine evs_op hs (ih h ?_)
      rw [show k + 1 + n = k + (n + 1) from by omega]
      exact next
/-- a call -/
theorem evs_callE {o : Oper} (ho : opAt ops k = some o) (hg : pguard ops σ o = some true) {f : Nat} {args : List PV} {R R1 : TL} {vis : List Nat} {qs : List PV} {H0 : HP} {r : PV} {H1 : HP} (hc : pcallee σ o.op = some (f, args))
    (hK : CallE G.P f args o.dst σ R R1 vis qs H0 r H1 (fun σ' => EVS G ops (k + 1) σ' K)) : EVS G ops k σ K :=
  evs_one ho hg (fun _ E S0 N a w c hi hd next Q hn => callE_ok hc hK hi hd next Q hn) fun e => nomatch e
/-- an object is given to be read -/
theorem evs_freeze (g : Nat) (u : PV) (hg : Nat.blt g PIN = true) (hu : (∃ e J es, σ.hget g = some (.row e J es) ∧ u = .sl es) ∨ ∃ m, σ.hget g = some (.map m) ∧ u = .fmap m) (next : EVS G ops k (σ.frz g u) K) : EVS G ops k σ K := fun E S0 N a w c hd hi Q hn => by
  obtain ⟨c', hi'⟩ := hi.freeze (by simpa using hg) hu
  exact next E S0 N a w c' hd hi' Q hn
end
theorem sem_freeze (g : Nat) (u : PV) (hg : Nat.blt g PIN = true) (hu : (∃ e J es, σ.hget g = some (.row e J es) ∧ u = .sl es) ∨ ∃ m, σ.hget g = some (.map m) ∧ u = .fmap m) (next : SEM G cd (σ.frz g u) K) : SEM G cd σ K := fun E S0 N a w c hd hi => by
  obtain ⟨c', hi'⟩ := hi.freeze (by simpa using hg) hu
  exact next E S0 N a w c' hd hi'
end

/-! ### contracts -/
/-- What a body must come to. -/
def retK (P : Program) (l : List ResultVar) (r : PV) (H1 : HP) (x : PX) (σ : St) : Prop := (match x with | .exit _ => False | _ => True) ∧ pres P σ l = some r ∧ ∀ g o, H1.get g = some o → σ.hget g = some o
/-- **A contract, out of a statement's meaning.** -/
theorem pc_sem {G : Prg} {f : FuncId} {fn : Func} {cd : Code} {args : List PV} {H0 : HP} {r : PV} {H1 : HP} (hf : G.P.funcs[f]? = some fn) (hb : fn.body = some cd) (hname : (fn.name == "runtime.NumGoroutine") = false)
    (hd : dstOk fn.ntmps cd = true) (hl : args.length ≤ fn.ntmps) (hN : fn.ntmps ≤ PIN) (h : SEM G cd ⟨initSt 0 args, H0⟩ (retK G.P fn.results.toList r H1)) : PC G.P f args H0 r H1 := by
  refine ⟨by unfold enters; simp [hf, hb, hname], fun w c vals hok hobj hlen hrep => ?_⟩
  refine calls_of_wp hf hb ?_
  have hsz : (vals.toArray ++ Array.replicate (fn.ntmps - vals.toArray.size) undef).size = fn.ntmps := by simp; omega
  have inv : Inv G.P ⟨w, fun b => w.heap.size ≤ b ∨ ∃ k, c.D k ∧ c.τ k = b, fun _ h => .inl h, c⟩ c.S fn.ntmps ⟨initSt 0 args, H0⟩ { tmps := vals.toArray ++ Array.replicate (fn.ntmps - vals.toArray.size) undef, defers := [] } w c := by
    refine ⟨⟨rfl, rfl, rfl, Nat.le_refl _, fun _ _ _ => rfl⟩, ⟨hok.hS, fun k hk => ⟨.inr ⟨k, hk, rfl⟩, (hok.hD k hk).2⟩, hok.inj⟩, fun _ h => h, fun _ h => .inl h, fun i => ?_, hobj, fun g _ => Agree.refl c _, hN, hsz, rfl⟩
    show RV G.P w c ((initSt 0 args).get i) _
    rw [initSt_get]
    simp only [Nat.zero_le, if_true, Nat.sub_zero]
    cases hi : args[i]? with
    | none => exact .free _ _ (.undef _)
    | some pv =>
      have hlt : i < vals.length := by
        rw [hlen]
        exact len_of_get hi
      have := hrep i pv hi
      simp only [Option.getD_some]
      rw [Array.getD_eq_getD_getElem?, Array.getElem?_append_left (by simpa using hlt)]
      simpa [List.getD_eq_getElem?_getD] using this
  refine wp_mono (h _ _ _ _ _ _ hd inv) fun e a' w' he => ?_
  obtain ⟨px, σ', c', hl, ⟨hk1, hk2, hk3⟩, hi⟩ := he
  obtain ⟨v, q1, q2⟩ := pres_ok hi hk2
  have fin : bodyPost G.P fn (fun e w' => ∃ v c', e = .returned v ∧ Ent.Fr ⟨w, fun b => w.heap.size ≤ b ∨ ∃ k, c.D k ∧ c.τ k = b, fun _ h => .inl h, c⟩ w' ∧ (∀ b, c.S b → c'.S b) ∧ (∀ b, c'.S b → c.S b ∨ w.heap.size ≤ b ∨ ∃ k, c.D k ∧ c.τ k = b) ∧
      c'.Ok (fun b => w.heap.size ≤ b ∨ ∃ k, c.D k ∧ c.τ k = b) w' ∧ Pinned c c' ∧ RV G.P w' c' r v ∧ ∀ g o, H1.get g = some o → HRep G.P w' c' g o) .ret a' w' :=
    ⟨hi.defers, v, q1, v, c', rfl, hi.below, hi.sub, hi.sup, hi.ok, hi.pin, q2, fun g o hg => hi.objs g o (hk3 g o hg)⟩
  cases px <;> cases e <;> simp only [PX.like] at hl
  · exact fin
  · exact hk1.elim
  · exact fin
end Go.VI
