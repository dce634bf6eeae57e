/- Statements by their meaning, and rules for proofs that a program prints: each step names what it comes to, and the kernel reckons. -/
import Derived.Test.YtiodkdpfkchkjaaVISound
set_option linter.unusedVariables false
set_option linter.unusedSimpArgs false
set_option linter.unusedSectionVars false
namespace Go.VI
open Go.RowKit

/-- A program, with what is known of its equalities. -/
structure Prg where
  P : Program
  eqn : TypeId → Nat
  hE : ∀ t, 0 < eqn t → EqC P t (eqn t)
  hmix : P.follows .mixedOrders = true

/-- A statement from state σ ends as K says. -/
def SEM (G : Prg) (cd : Code) (σ : St) (K : PX → St → Prop) : Prop :=
  ∀ (w0 : Ent) (S0 : Nat → Prop) (N : Nat) (a : Act) (w : World) (c : Ctx), dstOk N cd = true → Inv G.P w0 S0 N σ a w c →
    cd.wp G.P (fun e a' w' => ∃ x σ' c', PX.like x e ∧ K x σ' ∧ Inv G.P w0 S0 N σ' a' w' c') a w

def knd : Code → Nat
  | .skip => 0
  | .region _ _ false => 1
  | .region _ _ true => 2
  | .seq _ _ => 3
  | .cond _ _ _ => 4
  | .block _ _ => 5
  | .loop _ => 6
  | .exit _ => 7
  | .ret => 8
  | _ => 9
def cL : Code → Code
  | .seq a _ => a
  | .cond _ a _ => a
  | .block _ c => c
  | .loop c => c
  | _ => .skip
def cR : Code → Code
  | .seq _ b => b
  | .cond _ _ b => b
  | _ => .skip
def cOps : Code → Array Oper
  | .region _ ops _ => ops
  | _ => #[]
def cId : Code → Nat
  | .block i _ => i
  | .exit i => i
  | _ => 0
def cCnd : Code → Operand
  | .cond c _ _ => c
  | _ => .const undef

section
variable {G : Prg} {cd : Code} {σ : St} {K : PX → St → Prop}

theorem sem_sub {σ' : St} (hs : Sub σ' σ) (h : SEM G cd σ' K) : SEM G cd σ K := fun w0 S0 N a w c hd hi => h w0 S0 N a w c hd (sub_inv hs hi)
theorem sem_mono {K' : PX → St → Prop} (hk : ∀ x τ, K' x τ → K x τ) (h : SEM G cd σ K') : SEM G cd σ K := fun w0 S0 N a w c hd hi =>
  wp_mono (h w0 S0 N a w c hd hi) fun _ _ _ ⟨x, σ', c', q1, q2, q3⟩ => ⟨x, σ', c', q1, hk _ _ q2, q3⟩

/-- the slots of σ', as σ has them -/
def atS (σ' σ : St) : St := List.map (fun (p : Nat × PV) => (p.1, σ.get p.1)) σ'
/-- what is said, is so -/
theorem sub_map {σ' : St} (h : atS σ' σ = σ') : Sub σ' σ := by
  intro i
  induction σ' with
  | nil => left; rfl
  | cons p r ih =>
    obtain ⟨j, v⟩ := p
    simp only [atS, List.map_cons, List.cons.injEq, Prod.mk.injEq] at h
    obtain ⟨⟨-, h1⟩, h2⟩ := h
    simp only [St.get]
    by_cases e : i = j
    · subst e; right; simp [h1]
    · rw [if_neg e]; exact ih h2
theorem sub_refl (σ : St) : Sub σ σ := fun _ => .inr rfl
theorem sub_trans {σ' σ'' : St} (h : Sub σ'' σ') (k : Sub σ' σ) : Sub σ'' σ := fun i => by
  rcases h i with e | e
  · exact .inl e
  · rw [e]; exact k i

theorem sem_set (σ' : St) (h : atS σ' σ = σ') (s : SEM G cd σ' K) : SEM G cd σ K := sem_sub (sub_map h) s

def thenK (G : Prg) (b : Code) (K : PX → St → Prop) : PX → St → Prop
  | .normal, σ => SEM G b σ K
  | .exit i, σ => K (.exit i) σ
  | .ret, σ => K .ret σ
def blkK (id : Nat) (K : PX → St → Prop) : PX → St → Prop
  | .exit i, σ => if i = id then K .normal σ else K (.exit i) σ
  | .normal, σ => K .normal σ
  | .ret, σ => K .ret σ

theorem th_normal {b : Code} (h : SEM G b σ K) : thenK G b K .normal σ := h
theorem th_exit {b : Code} {i : Nat} (h : K (.exit i) σ) : thenK G b K (.exit i) σ := h
theorem th_ret {b : Code} (h : K .ret σ) : thenK G b K .ret σ := h
theorem bl_hit {id i : Nat} (e : id = i) (h : K .normal σ) : blkK id K (.exit i) σ := by subst e; simp only [blkK, if_true]; exact h
theorem bl_miss {id i : Nat} (e : Nat.beq i id = false) (h : K (.exit i) σ) : blkK id K (.exit i) σ := by
  have : i ≠ id := fun q => by subst q; simp at e
  simp only [blkK, if_neg this]; exact h
theorem bl_normal {id : Nat} (h : K .normal σ) : blkK id K .normal σ := h
theorem bl_ret {id : Nat} (h : K .ret σ) : blkK id K .ret σ := h

theorem sem_skip (hk : knd cd = 0) (h : K .normal σ) : SEM G cd σ K := by
  cases cd <;> simp [knd] at hk
  · exact fun w0 S0 N a w c _ hi => wp_skip ⟨.normal, σ, c, trivial, h, hi⟩
  · rename_i b; cases b <;> simp [knd] at hk
theorem sem_exit (i : Nat) (hk : knd cd = 7) (hi : cId cd = i) (h : K (.exit i) σ) : SEM G cd σ K := by
  cases cd <;> simp [knd] at hk
  · rename_i b; cases b <;> simp [knd] at hk
  · simp only [cId] at hi; subst hi
    exact fun w0 S0 N a w c _ hi => wp_exit ⟨.exit _, σ, c, rfl, h, hi⟩
theorem sem_ret (hk : knd cd = 8) (h : K .ret σ) : SEM G cd σ K := by
  cases cd <;> simp [knd] at hk
  · rename_i b; cases b <;> simp [knd] at hk
  · exact fun w0 S0 N a w c _ hi => wp_ret ⟨.ret, σ, c, trivial, h, hi⟩
theorem sem_seq (hk : knd cd = 3) (h : SEM G (cL cd) σ (thenK G (cR cd) K)) : SEM G cd σ K := by
  cases cd <;> simp [knd] at hk
  · rename_i b; cases b <;> simp [knd] at hk
  · rename_i x y
    intro w0 S0 N a w c hd hi
    simp only [dstOk, Bool.and_eq_true] at hd
    refine wp_seq (wp_mono (h w0 S0 N a w c hd.1 hi) fun e a' w' he => ?_)
    obtain ⟨px, σ', c', hl, hk, hi⟩ := he
    cases px <;> cases e <;> simp only [PX.like] at hl
    · exact hk w0 S0 N _ _ _ hd.2 hi
    · exact ⟨.exit _, σ', c', by rw [PX.like]; exact hl, hk, hi⟩
    · exact ⟨.ret, σ', c', trivial, hk, hi⟩
theorem sem_cond (b : Bool) (hk : knd cd = 4) (hb : pev σ (cCnd cd) = .lit (.bool b)) (h1 : b = true → SEM G (cL cd) σ K) (h2 : b = false → SEM G (cR cd) σ K) : SEM G cd σ K := by
  cases cd <;> simp [knd] at hk
  · rename_i b; cases b <;> simp [knd] at hk
  · rename_i x y z
    intro w0 S0 N a w c hd hi
    simp only [dstOk, Bool.and_eq_true] at hd
    have hv := hi.ev x
    simp only [cCnd] at hb
    rw [hb] at hv
    exact wp_cond_split hv.lit_eq (fun e => h1 e w0 S0 N a w c hd.1 hi) (fun e => h2 e w0 S0 N a w c hd.2 hi)
theorem sem_condT (hk : knd cd = 4) (hb : pev σ (cCnd cd) = .lit (.bool true)) (h1 : SEM G (cL cd) σ K) : SEM G cd σ K := sem_cond true hk hb (fun _ => h1) (fun e => nomatch e)
theorem sem_condF (hk : knd cd = 4) (hb : pev σ (cCnd cd) = .lit (.bool false)) (h2 : SEM G (cR cd) σ K) : SEM G cd σ K := sem_cond false hk hb (fun e => nomatch e) (fun _ => h2)
theorem sem_block (hk : knd cd = 5) (h : SEM G (cL cd) σ (blkK (cId cd) K)) : SEM G cd σ K := by
  cases cd <;> simp [knd] at hk
  · rename_i b; cases b <;> simp [knd] at hk
  · rename_i id x
    intro w0 S0 N a w c hd hi
    refine wp_block (wp_mono (h w0 S0 N a w c (by rw [dstOk] at hd; exact hd) hi) fun e a' w' he => ?_)
    obtain ⟨px, σ', c', hl, hk, hi⟩ := he
    cases px <;> cases e <;> simp only [PX.like] at hl
    · exact ⟨.normal, σ', c', trivial, hk, hi⟩
    · subst hl
      simp only [Exit.inBlock]
      rename_i jd
      replace hk : if jd = id then K PX.normal σ' else K (PX.exit jd) σ' := hk
      by_cases e : jd = id
      · rw [if_pos e] at hk ⊢; exact ⟨.normal, σ', c', trivial, hk, hi⟩
      · rw [if_neg e] at hk ⊢; exact ⟨.exit _, σ', c', rfl, hk, hi⟩
    · exact ⟨.ret, σ', c', trivial, hk, hi⟩

/-! ### loops -/
def iterT {S R : Type} (body : S → Option (S ⊕ R)) : Nat → S → Option R
  | 0, _ => none
  | n + 1, s => match body s with
    | some (.inl s') => iterT body n s'
    | some (.inr r) => some r
    | none => none
theorem iterT_mono {S R : Type} {body : S → Option (S ⊕ R)} : ∀ {n m : Nat} {s : S} {r : R}, n ≤ m → iterT body n s = some r → iterT body m s = some r
  | 0, _, _, _, _, h => by cases h
  | n + 1, 0, _, _, h, _ => by omega
  | n + 1, m + 1, s, r, h, hi => by
    simp only [iterT] at hi ⊢
    cases hb : body s with
    | none => rw [hb] at hi; cases hi
    | some t =>
      rw [hb] at hi
      cases t with
      | inl s' => exact iterT_mono (Nat.le_of_succ_le_succ h) hi
      | inr r' => exact hi
/-- The loop's answer, where it ends. -/
noncomputable def loopT {S R : Type} (body : S → Option (S ⊕ R)) (s : S) : Option R :=
  open Classical in if h : ∃ r n, iterT body n s = some r then some (Classical.choose h) else none
theorem loopT_iff {S R : Type} {body : S → Option (S ⊕ R)} {s : S} {r : R} : loopT body s = some r ↔ ∃ n, iterT body n s = some r := by
  unfold loopT
  constructor
  · intro h
    split at h
    · rename_i hh
      injection h with h
      rw [← h]
      exact Classical.choose_spec hh
    · cases h
  · rintro ⟨n, h⟩
    have hh : ∃ r n, iterT body n s = some r := ⟨r, n, h⟩
    rw [dif_pos hh]
    obtain ⟨m, hm⟩ := Classical.choose_spec hh
    rcases Nat.le_total n m with q | q
    · rw [iterT_mono q h] at hm; exact hm.symm
    · rw [iterT_mono q hm] at h; exact h
theorem loopT_eq {S R : Type} (body : S → Option (S ⊕ R)) (s : S) : loopT body s = match body s with
    | some (.inl s') => loopT body s'
    | some (.inr r) => some r
    | none => none := by
  have key : ∀ r, loopT body s = some r ↔ (match body s with
    | some (.inl s') => loopT body s'
    | some (.inr r) => some r
    | none => none) = some r := by
    intro r
    rw [loopT_iff]
    constructor
    · rintro ⟨n, h⟩
      cases n with
      | zero => cases h
      | succ n =>
        simp only [iterT] at h
        split at h
        · exact loopT_iff.2 ⟨n, h⟩
        · exact h
        · cases h
    · intro h
      split at h
      · rename_i s' hb
        obtain ⟨n, hn⟩ := loopT_iff.1 h
        exact ⟨n + 1, by simp only [iterT, hb]; exact hn⟩
      · rename_i r' hb
        exact ⟨1, by simp only [iterT, hb]; exact h⟩
      · cases h
  cases h1 : loopT body s with
  | some r => exact ((key r).1 h1).symm
  | none =>
    generalize hX : (match body s with
    | some (.inl s') => loopT body s'
    | some (.inr r) => some r
    | none => none) = X
    cases X with
    | none => rfl
    | some r =>
      have h2 := (key r).2 hX
      rw [h1] at h2; cases h2

/-- how a round of the body must end -/
def LK {S R : Type} (emb : S → St) (out : R → PX × St) (t : S ⊕ R) (px : PX) (τ : St) : Prop := match t with
  | .inl s' => px = .normal ∧ Sub (emb s') τ
  | .inr r => px = (out r).1 ∧ Sub (out r).2 τ
theorem lk_next {S R : Type} {emb : S → St} {out : R → PX × St} {s' : S} {τ : St} (h : atS (emb s') τ = emb s') : LK emb out (.inl s') .normal τ := ⟨rfl, sub_map h⟩
theorem lk_out {S R : Type} {emb : S → St} {out : R → PX × St} {r : R} {px : PX} {τ : St} (e : (out r).1 = px) (h : atS (out r).2 τ = (out r).2) : LK emb out (.inr r) px τ := ⟨e.symm, sub_map h⟩

theorem sem_loop {S R : Type} (emb : S → St) (out : R → PX × St) (body : S → Option (S ⊕ R)) (s : S) (r : R) (hk : knd cd = 6) (h0 : atS (emb s) σ = emb s) (h : loopT body s = some r)
    (hbody : ∀ s t, body s = some t → SEM G (cL cd) (emb s) (LK emb out t)) (hout : ∀ r, (out r).1 ≠ .normal) (hK : ∀ τ, Sub (out r).2 τ → K (out r).1 τ) : SEM G cd σ K := by
  refine sem_set (emb s) h0 ?_
  cases cd <;> simp [knd] at hk
  · rename_i b; cases b <;> simp [knd] at hk
  rename_i x
  intro w0 S0 N a w c hd hi
  obtain ⟨n, hn⟩ := loopT_iff.1 h
  refine wp_loop_rounds n ?_
  clear h0 h
  induction n generalizing s a w c with
  | zero => cases hn
  | succ n ih =>
    simp only [iterT] at hn
    rw [rounds_succ]
    cases hb : body s with
    | none => rw [hb] at hn; cases hn
    | some t =>
      rw [hb] at hn
      refine wp_mono (hbody s t hb w0 S0 N a w c (by rw [dstOk] at hd; exact hd) hi) fun e a' w' he => ?_
      obtain ⟨px, σ', c', hl, hk, hi⟩ := he
      cases t with
      | inl s' =>
        obtain ⟨rfl, hs⟩ := hk
        cases e <;> simp only [PX.like] at hl
        exact ih s' _ _ _ (sub_inv hs hi) hn
      | inr r' =>
        simp only [Option.some.injEq] at hn
        subst hn
        obtain ⟨he, hs⟩ := hk
        have hne := hout r'
        have hfin := hK σ' hs
        rw [← he] at hne hfin
        cases px <;> cases e <;> simp only [PX.like] at hl
        · exact absurd rfl hne
        · subst hl; exact ⟨.exit _, σ', c', rfl, hfin, hi⟩
        · exact ⟨.ret, σ', c', trivial, hfin, hi⟩

/-! ### regions -/
/-- The operations from the k-th on. -/
def EVS (G : Prg) (ops : Array Oper) (k : Nat) (σ : St) (K : St → Prop) : Prop :=
  ∀ (w0 : Ent) (S0 : Nat → Prop) (N : Nat) (a : Act) (w : World) (c : Ctx), (∀ o ∈ ops.toList, ∀ k, o.dst = some k → k < N) → Inv G.P w0 S0 N σ a w c →
    ∀ (Q : Exit → Act → World → Prop), (∀ σ' a' w' c', K σ' → Inv G.P w0 S0 N σ' a' w' c' → Q .normal a' w') → wpOps G.P ops Q (List.range' k (ops.size - k)) a w

theorem dstOk_all {N id : Nat} {ops : Array Oper} {d : Bool} (hd : dstOk N (.region id ops d) = true) : ∀ o ∈ ops.toList, ∀ k, o.dst = some k → k < N := fun o ho k hk => by
  have := List.all_eq_true.1 (by rw [dstOk] at hd; exact hd) o ho
  rw [hk] at this
  simpa using this
theorem sem_region (hk : knd cd = 1) (h : EVS G (cOps cd) 0 σ (K .normal)) : SEM G cd σ K := by
  cases cd <;> simp [knd] at hk
  rename_i id ops b
  cases b <;> simp [knd] at hk
  intro w0 S0 N a w c hd hi
  refine wp_region ?_
  have := h w0 S0 N a w c (dstOk_all hd) hi (fun e a' w' => ∃ x σ' c', PX.like x e ∧ K x σ' ∧ Inv G.P w0 S0 N σ' a' w' c') fun σ' a' w' c' hk hi => ⟨.normal, σ', c', trivial, hk, hi⟩
  simp only [cOps, Nat.sub_zero] at this
  rwa [← List.range_eq_range'] at this
section
variable {ops : Array Oper} {k : Nat} {K : St → Prop}
theorem evs_sub {σ' : St} (hs : Sub σ' σ) (h : EVS G ops k σ' K) : EVS G ops k σ K := fun w0 S0 N a w c hd hi => h w0 S0 N a w c hd (sub_inv hs hi)
theorem evs_set (σ' : St) (h : atS σ' σ = σ') (s : EVS G ops k σ' K) : EVS G ops k σ K := evs_sub (sub_map h) s
theorem evs_end (h : Nat.ble ops.size k = true) (hk : K σ) : EVS G ops k σ K := fun w0 S0 N a w c hd hi Q hn => by
  have : ops.size - k = 0 := by have := Nat.le_of_ble_eq_true h; omega
  rw [this]
  simp only [List.range'_zero, wpOps]
  exact hn _ _ _ _ hk hi
/-- the k-th operation -/
def opAt (ops : Array Oper) (k : Nat) : Option Oper := ops.toList[k]?
def dstAt (ops : Array Oper) (k : Nat) : Option Nat := (opAt ops k).bind (·.dst)
theorem evs_one {o : Oper} (ho : opAt ops k = some o) {b : Bool} (hg : pguard ops σ o = some b) (h1 : b = true → opE G.P G.eqn o σ (fun σ' => EVS G ops (k + 1) σ' K)) (h2 : b = false → EVS G ops (k + 1) (Res.put σ o.dst (.val (.lit undef))) K) : EVS G ops k σ K := by
  intro w0 S0 N a w c hd hi Q hn
  have hlt : k < ops.size := by
    unfold opAt at ho
    obtain ⟨q, _⟩ := List.getElem?_eq_some_iff.1 ho
    simpa using q
  have e : ops.size - k = (ops.size - (k + 1)) + 1 := by omega
  have hmA : ops[k]? = some o := by rw [← Array.getElem?_toList]; exact ho
  rw [e, List.range'_succ]
  simp only [wpOps, hmA]
  cases b with
  | true =>
    rw [if_pos (pguard_ok hi hg)]
    exact .inl (opE_ok G.hE (h1 rfl) hi (hd o (List.mem_of_getElem? ho)) _ _ fun σ' a' w' c' hk hi' => hk w0 S0 N a' w' c' hd hi' Q hn)
  | false =>
    rw [if_neg (by rw [pguard_ok hi hg]; simp)]
    exact h2 rfl w0 S0 N _ w c hd (hi.put o.dst (hd o (List.mem_of_getElem? ho)) (.free _ _ (.lit _))) Q hn
/-- what the k-th operation comes to; none: a call, or stuck -/
def stepAt (G : Prg) (ops : Array Oper) (k : Nat) (σ : St) : Option Res := match opAt ops k with
  | some o => match pguard ops σ o with
    | some true => (match pcallee σ o.op with
      | none => peop G.P G.eqn σ (o.dst.getD 0) o.type o.op
      | some _ => none)
    | some false => some (.val (.lit undef))
    | none => none
  | none => none
theorem evs_op {r : Res} (h : stepAt G ops k σ = some r) (next : EVS G ops (k + 1) (r.put σ (dstAt ops k)) K) : EVS G ops k σ K := by
  unfold stepAt at h
  cases ho : opAt ops k with
  | none => rw [ho] at h; cases h
  | some o =>
    rw [ho] at h
    have hd : dstAt ops k = o.dst := by unfold dstAt; rw [ho]; rfl
    rw [hd] at next
    simp only at h
    cases hg : pguard ops σ o with
    | none => rw [hg] at h; cases h
    | some b =>
      rw [hg] at h
      cases b with
      | true =>
        refine evs_one ho hg (fun _ => .inl ?_) fun e => nomatch e
        simp only at h
        split at h
        · rename_i hc; simp only [hc, h, optE]; exact next
        · cases h
      | false =>
        refine evs_one ho hg (fun e => nomatch e) fun _ => ?_
        simp only [Option.some.injEq] at h
        subst h
        exact next
def runK (G : Prg) (ops : Array Oper) : Nat → Nat → St → Option St
  | _, 0, σ => some σ
  | k, n + 1, σ => match stepAt G ops k σ with
    | some r => runK G ops (k + 1) n (r.put σ (dstAt ops k))
    | none => none
def runD (G : Prg) (ops : Array Oper) (k n : Nat) (σ : St) : St := (runK G ops k n σ).getD []
theorem evs_run (n : Nat) (h : (runK G ops k n σ).isSome = true) (next : EVS G ops (k + n) (runD G ops k n σ) K) : EVS G ops k σ K := by
  induction n generalizing k σ with
  | zero => exact next
  | succ n ih =>
    simp only [runK] at h
    simp only [runD, runK] at next
    cases hs : stepAt G ops k σ with
    | none => rw [hs] at h; cases h
    | some r =>
      rw [hs] at h next
      refine evs_op hs (ih h ?_)
      rw [show k + 1 + n = k + (n + 1) from by omega]
      exact next
end
end
end Go.VI
