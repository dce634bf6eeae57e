/- A call is carried out as its contract says. -/
import Derived.Test.YtppmnjiibmomoaaVHCall
set_option linter.unusedVariables false
set_option linter.unusedSimpArgs false
set_option linter.unusedSectionVars false
namespace Go.VI
open Go.RowKit

section
variable {P : Program} {E : Ent} {S0 : Nat → Prop} {N : Nat} {σ : St} {a : Act} {w : World} {c : Ctx}

/-- The function that an operation calls, with its arguments. -/
def pcallee (σ : St) : Op → Option (Nat × List PV)
  | .call c => match c.callee with
    | .value x => match pev σ x with
      | .fn f caps => some (f, c.args.toList.map (pev σ) ++ caps)
      | _ => none
    | _ => none
  | _ => none

theorem callE_ok {o : Oper} {f : Nat} {args : List PV} {R R1 : TL} {vis : List Nat} {qs : List PV} {H0 : HP} {r : PV} {H1 : HP} {K : St → Prop} (hc : pcallee σ o.op = some (f, args)) (hK : CallE P f args o.dst σ R R1 vis qs H0 r H1 K) (h : Inv P E S0 N σ a w c) (hd : ∀ k, o.dst = some k → k < N)
    (next : Act → World → Prop) (Q : Exit → Act → World → Prop) (hn : ∀ σ' a' w' c', K σ' → Inv P E S0 N σ' a' w' c' → next a' w') : o.wp P a w next Q := by
  obtain ⟨⟨hent, hcall⟩, hR, hR1, hsub, hsmall, hvis, hq, hH, hind, hk⟩ := hK
  -- the operands
  unfold pcallee at hc
  split at hc
  case h_2 => cases hc
  rename_i cl' hop
  split at hc
  case h_2 => cases hc
  rename_i x hcal
  split at hc
  case h_2 => cases hc
  rename_i f' caps hx
  simp only [Option.some.injEq, Prod.mk.injEq] at hc
  obtain ⟨rfl, hargs⟩ := hc
  have rx := h.ev x
  rw [hx] at rx
  have hfn : ∃ vs : Array Value, a.eval x = .func (.func f') #[] vs ∧ vs.size = caps.length ∧ ∀ (i : Nat) pv, caps[i]? = some pv → RV P w c pv (vs.getD i undef) := by
    generalize a.eval x = X at rx
    cases rx with
    | free pv v hf => cases hf with | fn f cs vs hn hr => exact ⟨vs, rfl, hn, fun i pv hg => .free _ _ (hr i pv hg)⟩
    | fn f cs vs hn hr => exact ⟨vs, rfl, hn, hr⟩
  obtain ⟨cv, hX, hcn, hcr⟩ := hfn
  have hrun : (execOp a.eval o).run P w = .ok (.enter f' (cl'.args.map a.eval ++ cv)) w := by
    unfold enters at hent
    cases hfu : P.funcs[f']? with
    | none => simp [hfu] at hent
    | some fn =>
      simp only [hfu, Bool.and_eq_true, Bool.not_eq_true'] at hent
      have hb : fn.body.isNone = false := by
        cases hbo : fn.body <;> simp [hbo] at hent ⊢
      unfold execOp
      simp only [hop, resolve, hcal, hX, Deferred.ofValue, Sem.run_bind, Sem.run_pure, Result.andThen_ok, invoke, callFunc, program, Sem.run, hfu, hent.2, hb, Bool.false_eq_true, if_false, Array.empty_append]
  have hrep : ∀ (i : Nat) pv, args[i]? = some pv → RV P w c pv ((cl'.args.map a.eval ++ cv).toList.getD i undef) := by
    intro i p hp
    subst hargs
    rw [List.getD_eq_getElem?_getD, Array.toList_append]
    by_cases hi : i < cl'.args.size
    · rw [List.getElem?_append_left (by simpa using hi)] at hp
      rw [List.getElem?_append_left (by simpa using hi)]
      simp only [List.getElem?_map, Option.map_eq_some_iff] at hp
      obtain ⟨y, hy, rfl⟩ := hp
      simp only [Array.toList_map, List.getElem?_map, hy, Option.map_some, Option.getD_some]
      exact h.ev y
    · rw [List.getElem?_append_right (by simp; omega)] at hp
      rw [List.getElem?_append_right (by simp; omega)]
      simp only [List.length_map, Array.length_toList, Array.toList_map] at hp ⊢
      have := hcr _ p hp
      simpa [Array.getD_eq_getD_getElem?] using this
  have hlen : (cl'.args.map a.eval ++ cv).toList.length = args.length := by subst hargs; simp [hcn]
  -- what is read
  let S' : Nat → Prop := fun b => c.S b ∨ ∃ k, c.D k ∧ k.tag ∈ vis ∧ c.τ k = b
  let hv : HP := σ.h.only vis
  have hvin : ∀ g ∈ vis, R.inn g = none := fun g hg => by have := List.all_eq_true.1 hvis g hg; simpa using this
  have hSS : ∀ b, c.S b → S' b := fun b hb => .inl hb
  have hobjs : ∀ g o, hv.get g = some o → HRep P w c g o ∧ (∀ k : Key, k.tag = g → c.D k → S' (c.τ k)) := by
    intro g ob hg
    obtain ⟨q1, q2⟩ := only_get hg
    exact ⟨h.objs g ob q2, fun k hk hD => .inr ⟨k, hD, hk ▸ q1, rfl⟩⟩
  have hview := viewR_ok (P := P) (w := w) (c := c) hR (hv := hv) (S := S') hSS (fun g o hg => (hobjs g o hg).1) (fun g o hg => (hobjs g o hg).2) DEEP
  let c0 := inCtx c R S'
  -- a handed block is the caller's
  have hdead : ∀ k k0 : Key, c.D k → c0.D k0 → c0.τ k0 = c.τ k → ∃ t, R.inn k.tag = some t := by
    intro k k0 hD ⟨g, hg, hD0⟩ he
    rw [(inCtx_at hg).1] at he
    have := h.ok.inj _ _ hD0 hD he
    refine ⟨k0.tag, (TL.out_inn hR).1 ?_⟩
    rw [← this, retag_tag]; exact hg
  have hSlt : ∀ b, S' b → b < w.heap.size := fun b hb => by
    rcases hb with q | ⟨k, q1, _, rfl⟩
    · exact h.ok.hS b q
    · exact (h.ok.hD k q1).2.1
  have hok0 : c0.Ok (fun _ => True) w := by
    refine ⟨hSlt, fun k ⟨g, hg, hD⟩ => ?_, fun k k' ⟨g, hg, hD⟩ ⟨g', hg', hD'⟩ he => ?_⟩
    · have hτ := (inCtx_at (c := c) (S := S') hg).1
      have hDk := h.ok.hD _ hD
      refine ⟨trivial, by rw [hτ]; exact hDk.2.1, fun hS => ?_⟩
      rw [hτ] at hS
      rcases hS with q | ⟨k', q1, q2, q3⟩
      · exact hDk.2.2 q
      · have := h.ok.inj _ _ q1 hD q3
        rw [this, retag_tag] at q2
        have := hvin _ q2
        rw [(TL.out_inn hR).1 hg] at this
        cases this
    · rw [(inCtx_at hg).1, (inCtx_at hg').1] at he
      have e := h.ok.inj _ _ hD hD' he
      have et : g = g' := by have := congrArg Key.tag e; rwa [retag_tag, retag_tag] at this
      subst et
      have ht : k.tag = k'.tag := by
        have q1 := (TL.out_inn hR).1 hg
        rw [(TL.out_inn hR).1 hg'] at q1
        injection q1 with q1; exact q1.symm
      exact retag_inj e ht
  have hobj0 : ∀ t o, H0.get t = some o → HRep P w c0 t o := by
    intro t ob ht
    rw [← hH] at ht
    obtain ⟨g, o1, q1, q2, rfl⟩ := handed_get ht
    exact hrep_in hR hSS (fun g o hg => (hobjs g o hg).1) (fun g o hg => (hobjs g o hg).2) (mem_out hR q1) (h.objs g o1 q2)
  have hcalls := hcall w c0 (cl'.args.map a.eval ++ cv).toList hok0 hobj0 (by rw [← hq, viewRL_length, hlen]) (fun i pv hg => by
    rw [← hq] at hg
    exact hview.2 args _ hrep i pv hg)
  unfold Oper.wp
  rw [hrun, Oper.upon_enter]
  rw [Array.toArray_toList] at hcalls
  refine hcalls.mono fun e w' he => ?_
  obtain ⟨v, c1, rfl, hfr, hs1, hs2, hok, hpin, hv1, hobj1⟩ := he
  simp only
  have hsz : w.heap.size ≤ w'.heap.size := hfr.size
  let M1 : Nat → Prop := fun b => w.heap.size ≤ b ∨ ∃ k, c0.D k ∧ c0.τ k = b
  let S2 : Nat → Prop := fun b => c.S b ∨ (vis = [] ∧ c1.S b)
  let c2 := outCtx c c1 R1 S2
  have hM1 : ∀ b, M1 b → E.M b := fun b hb => by
    rcases hb with q | ⟨k, ⟨g, hg, hD⟩, rfl⟩
    · exact h.below.mine q
    · rw [(inCtx_at hg).1]; exact (h.ok.hD _ hD).1
  -- a key that is kept: its block is not the callee's
  have hkeep : ∀ k, R1.inn k.tag = none → c.D k → ¬ M1 (c.τ k) := fun k hk hD hm => by
    rcases hm with q | ⟨k0, q1, q2⟩
    · have := (h.ok.hD k hD).2.1; omega
    · obtain ⟨t, ht⟩ := hdead k k0 hD q1 q2
      have := (TL.out_inn hR1).1 (hsub _ _ ((TL.out_inn hR).2 ht))
      rw [hk] at this; cases this
  have hsame : ∀ b, b < w.heap.size → ¬ M1 b → w'.heap[b]? = w.heap[b]? := fun b hb hm => hfr.block b hb hm
  have hcS : ∀ b, c.S b → ¬ M1 b := fun b hS hm => by
    rcases hm with q | ⟨k, ⟨g, hg, hD⟩, rfl⟩
    · have := h.ok.hS b hS; omega
    · rw [(inCtx_at hg).1] at hS; exact (h.ok.hD _ hD).2.2 hS
  have hS2lt : ∀ b, S2 b → b < w'.heap.size := fun b hb => by
    rcases hb with q | ⟨_, q⟩
    · exact Nat.lt_of_lt_of_le (h.ok.hS b q) hsz
    · exact hok.hS b q
  have hS2sup : ∀ b, S2 b → S0 b ∨ E.M b := fun b hb => by
    rcases hb with q | ⟨hcl, q⟩
    · exact h.sup b q
    · rcases hs2 b q with q' | q'
      · rcases q' with q' | ⟨k, _, q', _⟩
        · exact h.sup b q'
        · rw [hcl] at q'; cases q'
      · exact .inr (hM1 b q')
  have hSm : Same c.S w w' := fun b hb => hsame b (h.ok.hS b hb) (hcS b hb)
  have hclS : vis = [] → ∀ b, c1.S b → S2 b := fun hcl b hb => .inr ⟨hcl, hb⟩
  have hindS : (∀ b, c1.S b → S2 b) ∨ r.ind = true := hind.imp hclS (·.1)
  -- the new context fits
  have hok2 : c2.Ok E.M w' := by
    refine ⟨hS2lt, fun k hDk => ?_, fun k k' hDk hDk' he => ?_⟩
    · cases hi : R1.inn k.tag with
      | none =>
        have ho := outCtx_old (c := c) (c1 := c1) (S := S2) hi
        have hDc := ho.2.1 hDk
        rw [show c2.τ k = c.τ k from ho.1.1]
        have hDk0 := h.ok.hD k hDc
        refine ⟨hDk0.1, Nat.lt_of_lt_of_le hDk0.2.1 hsz, fun hS => ?_⟩
        rcases hS with q | ⟨hcl, q⟩
        · exact hDk0.2.2 q
        · rcases hs2 _ q with q' | q'
          · rcases q' with q' | ⟨k, _, q', _⟩
            · exact hDk0.2.2 q'
            · rw [hcl] at q'; cases q'
          · exact hkeep k hi hDc q'
      | some t =>
        have hτ : c2.τ k = c1.τ (k.retag t) := by simp [c2, outCtx, hi]
        have hD1 : c1.D (k.retag t) := by simpa [c2, outCtx, hi] using hDk
        have := hok.hD _ hD1
        rw [hτ]
        refine ⟨hM1 _ this.1, this.2.1, fun hS => ?_⟩
        rcases hS with q | ⟨_, q⟩
        · exact this.2.2 (hs1 _ (.inl q))
        · exact this.2.2 q
    · have cross : ∀ k k', R1.inn k.tag = none → (∃ t, R1.inn k'.tag = some t) → c2.D k → c2.D k' → c2.τ k = c2.τ k' → False := by
        intro k k' hi ⟨t, hi'⟩ hDk hDk' he
        have ho := outCtx_old (c := c) (c1 := c1) (S := S2) hi
        have hτ' : c2.τ k' = c1.τ (k'.retag t) := by simp [c2, outCtx, hi']
        have hD1 : c1.D (k'.retag t) := by simpa [c2, outCtx, hi'] using hDk'
        rw [show c2.τ k = c.τ k from ho.1.1, hτ'] at he
        exact hkeep k hi (ho.2.1 hDk) (he ▸ (hok.hD _ hD1).1)
      cases hi : R1.inn k.tag with
      | none =>
        cases hi' : R1.inn k'.tag with
        | none =>
          have ho := outCtx_old (c := c) (c1 := c1) (S := S2) hi
          have ho' := outCtx_old (c := c) (c1 := c1) (S := S2) hi'
          rw [show c2.τ k = c.τ k from ho.1.1, show c2.τ k' = c.τ k' from ho'.1.1] at he
          exact h.ok.inj _ _ (ho.2.1 hDk) (ho'.2.1 hDk') he
        | some t => exact (cross k k' hi ⟨t, hi'⟩ hDk hDk' he).elim
      | some t =>
        cases hi' : R1.inn k'.tag with
        | none => exact (cross k' k hi' ⟨t, hi⟩ hDk' hDk he.symm).elim
        | some t' =>
          have hτ : c2.τ k = c1.τ (k.retag t) := by simp [c2, outCtx, hi]
          have hD1 : c1.D (k.retag t) := by simpa [c2, outCtx, hi] using hDk
          have hτ' : c2.τ k' = c1.τ (k'.retag t') := by simp [c2, outCtx, hi']
          have hD1' : c1.D (k'.retag t') := by simpa [c2, outCtx, hi'] using hDk'
          rw [hτ, hτ'] at he
          have e := hok.inj _ _ hD1 hD1' he
          have et : t = t' := by have := congrArg Key.tag e; rwa [retag_tag, retag_tag] at this
          subst et
          have hg : k.tag = k'.tag := by
            have q1 := (TL.out_inn hR1).2 hi
            rw [(TL.out_inn hR1).2 hi'] at q1
            injection q1 with q1; exact q1.symm
          exact retag_inj e hg
  -- what is kept
  have hag : ∀ k, gone R1 ((R.filter fun x => Nat.ble PIN x.1).map (·.2)) k = false → Agree c c2 k := by
    intro k hk
    cases hi : R1.inn k.tag with
    | none => exact (outCtx_old hi).1
    | some t =>
      simp only [gone, hi, Option.isSome_some, Bool.true_and, Bool.or_eq_false_iff, Bool.not_eq_false'] at hk
      obtain ⟨h1, h2⟩ := hk
      rw [List.any_eq_true] at h1
      obtain ⟨g, hg, hgk⟩ := h1
      have hgk2 := Nat.eq_of_beq_eq_true hgk
      clear hgk
      rw [List.mem_map] at hg
      obtain ⟨⟨t', g'⟩, hm, rfl⟩ := hg
      rw [List.mem_filter] at hm
      simp only at hgk2 hm
      have ho := mem_out hR hm.1
      have hin := (TL.out_inn hR1).1 (hsub _ _ ho)
      rw [hgk2, hi] at hin
      injection hin with hin
      subst hin
      have hpt : PIN ≤ t := Nat.le_of_ble_eq_true hm.2
      cases k with
      | sub => simp [Key.isTop] at h2
      | top g0 =>
        simp only [Key.tag] at hgk2 hi
        subst hgk2
        obtain ⟨p1, p2, p3⟩ := hpin t hpt
        obtain ⟨q1, q2, q3, _⟩ := inCtx_at (c := c) (S := S') (k := .top t) ho
        simp only [Agree, c2, outCtx, Key.tag, hi]
        exact ⟨p1.trans q1, p2.trans q2, p3.trans q3⟩
  have hinv : Inv P E S0 N (after R1 ((R.filter fun x => Nat.ble PIN x.1).map (·.2)) σ H1) a w' c2 := by
    refine ⟨⟨hfr.os.trans h.below.os, hfr.tape.trans h.below.tape, hfr.output.trans h.below.output, Nat.le_trans h.below.size hsz, fun b hb hm => (hsame b (Nat.lt_of_lt_of_le hb h.below.size) fun q => hm (hM1 b q)).trans (h.below.block b hb hm)⟩,
      hok2, fun b hb => (Or.inl (h.sub b hb) : S2 b), hS2sup, fun i => ?_, fun g ob hg => ?_, fun g hg => ?_, h.small, h.size, h.defers⟩
    · have : (after R1 ((R.filter fun x => Nat.ble PIN x.1).map (·.2)) σ H1).get i = (σ.kill (gone R1 ((R.filter fun x => Nat.ble PIN x.1).map (·.2)))).get i := rfl
      rw [this, get_kill]
      exact (h.slots i).keepKill hSm (fun b hb => (Or.inl hb : S2 b)) hag
    · have : (after R1 ((R.filter fun x => Nat.ble PIN x.1).map (·.2)) σ H1).hget g = HP.get (H1.ren R1 ++ ((σ.kill (gone R1 ((R.filter fun x => Nat.ble PIN x.1).map (·.2)))).h.del R1)) g := rfl
      rw [this, append_hget] at hg
      split at hg
      · rename_i o1 ho1
        injection hg with hg
        subst hg
        obtain ⟨t, o2, q1, q2, rfl⟩ := ren_get hR1 ho1
        exact hrep_out hR1 q1 (hind.imp hclS fun q => q.2 t o2 q2) (hobj1 t o2 q2)
      · rw [del_get] at hg
        split at hg
        · cases hg
        · rename_i hi
          have hi : R1.inn g = none := by simpa using hi
          have hgk : (σ.kill (gone R1 ((R.filter fun x => Nat.ble PIN x.1).map (·.2)))).h.get g = (σ.kill (gone R1 ((R.filter fun x => Nat.ble PIN x.1).map (·.2)))).hget g := rfl
          rw [hgk, hget_kill] at hg
          split at hg
          · cases hg
          · simp only [Option.map_eq_some_iff] at hg
            obtain ⟨o2, ho2, rfl⟩ := hg
            refine (h.objs g o2 ho2).keepKill hSm (fun b hb => (Or.inl hb : S2 b)) hag (fun k hk => ?_) fun k hk hD => ?_
            · simp [gone, hk, hi]
            · have hi' : R1.inn k.tag = none := by rw [hk]; exact hi
              exact ⟨hsame _ (h.ok.hD k hD).2.1 (hkeep k hi' hD), (outCtx_old hi').2.2 hD⟩
    · cases hi : R1.inn g with
      | none =>
        obtain ⟨p1, p2, p3⟩ := h.pin g hg
        obtain ⟨⟨q1, q2, q3⟩, _⟩ := outCtx_old (c := c) (c1 := c1) (S := S2) (k := .top g) hi
        exact ⟨q1.trans p1, q2.trans p2, q3.trans p3⟩
      | some t =>
        rcases hsmall t g ((TL.out_inn hR1).2 hi) with ⟨q1, q2⟩ | ⟨_, q2⟩
        · obtain ⟨p1, p2, p3⟩ := h.pin g hg
          obtain ⟨r1, r2, r3⟩ := hpin t (q2 hg)
          obtain ⟨s1, s2, s3, _⟩ := inCtx_at (c := c) (S := S') (k := .top t) q1
          simp only [Agree, c2, outCtx, Key.tag, hi]
          exact ⟨(r1.trans s1).trans p1, (r2.trans s2).trans p2, (r3.trans s3).trans p3⟩
        · omega
  exact hn _ _ _ _ hk (hinv.put o.dst hd (ren_ok hR1 hv1 hindS))

/-- An object of one's own is given to be read. -/
theorem Inv.freeze (h : Inv P E S0 N σ a w c) {g : Nat} (hg : g < PIN) {u : PV} (hu : (∃ e J es, σ.hget g = some (.row e J es) ∧ u = .sl es) ∨ ∃ m, σ.hget g = some (.map m) ∧ u = .fmap m) : ∃ c', Inv P E S0 N (σ.frz g u) a w c' := by
  let S' : Nat → Prop := fun b => c.S b ∨ ∃ k : Key, k.tag = g ∧ c.D k ∧ c.τ k = b
  let c' : Ctx := ⟨S', c.τ, c.hd, c.ty, fun k => c.D k ∧ k.tag ≠ g⟩
  have hSS : ∀ b, c.S b → S' b := fun b hb => .inl hb
  have hb : ∀ k : Key, k.tag = g → c.D k → S' (c.τ k) := fun k hk hD => .inr ⟨k, hk, hD, rfl⟩
  -- what led to it
  have hrow : (∃ e J es, σ.hget g = some (.row e J es) ∧ u = .sl es) → RF w S' u (c.hd (.top g)) := by
    rintro ⟨e', J, es, q1, rfl⟩
    obtain ⟨xs, r⟩ := h.objs g _ q1
    exact row_view r (fun i j pv v => cell_view hSS hb i j pv v) fun b hb' => by obtain ⟨q1, rfl⟩ := r.blk b hb'; exact hb _ rfl q1
  have hmap : (∃ m, σ.hget g = some (.map m) ∧ u = .fmap m) → RF w S' u (.map (some (c.τ (.top g)))) := by
    rintro ⟨m, q1, rfl⟩
    obtain ⟨q2, q3⟩ := h.objs g _ q1
    exact .fmap m _ (hb _ rfl q2) q3
  have hok : c'.Ok E.M w := by
    refine ⟨fun b hb => ?_, fun k ⟨hD, hne⟩ => ⟨(h.ok.hD k hD).1, (h.ok.hD k hD).2.1, fun hS => ?_⟩, fun k k' hD hD' he => h.ok.inj _ _ hD.1 hD'.1 he⟩
    · rcases hb with q | ⟨k, _, q, rfl⟩
      · exact h.ok.hS b q
      · exact (h.ok.hD k q).2.1
    · rcases hS with q | ⟨k', q1, q2, q3⟩
      · exact (h.ok.hD k hD).2.2 q
      · have := h.ok.inj _ _ q2 hD q3
        subst this
        exact hne q1
  have hsup : ∀ b, S' b → S0 b ∨ E.M b := fun b hb => by
    rcases hb with q | ⟨k, _, q, rfl⟩
    · exact h.sup b q
    · exact .inr (h.ok.hD k q).1
  have frzL_get : ∀ (l : List PV) (i : Nat), (PV.frzL g u l)[i]? = (l[i]?).map (PV.frz g u) := by
    intro l
    induction l with
    | nil => intro i; simp [PV.frzL]
    | cons c cs ih => intro i; cases i <;> simp [PV.frzL, ih]
  have frzL_len : ∀ l : List PV, (PV.frzL g u l).length = l.length := by intro l; induction l <;> simp_all [PV.frzL]
  have main : ∀ pv v, RV P w c pv v → RV P w c' (PV.frz g u pv) v := by
    intro pv v r
    have lst : ∀ {cs : List PV} {vs : Array Value}, (∀ (i : Nat) pv, cs[i]? = some pv → RV P w c' (PV.frz g u pv) (vs.getD i Go.undef)) → ∀ (i : Nat) pv, (PV.frzL g u cs)[i]? = some pv → RV P w c' pv (vs.getD i Go.undef) := by
      intro cs vs ih i pv hg
      rw [frzL_get] at hg
      cases hc : cs[i]? <;> simp [hc] at hg
      subst hg; exact ih i _ hc
    induction r with
    | free pv v hf =>
      have hf2 : RF w S' pv v := hf.same (fun _ _ => rfl) hSS
      clear hf
      have lst2 : ∀ {cs : List PV} {vs : Array Value}, (∀ (i : Nat) pv, cs[i]? = some pv → RF w S' (PV.frz g u pv) (vs.getD i Go.undef)) → ∀ (i : Nat) pv, (PV.frzL g u cs)[i]? = some pv → RF w S' pv (vs.getD i Go.undef) := by
        intro cs vs ih i pv hg
        rw [frzL_get] at hg
        cases hc : cs[i]? <;> simp [hc] at hg
        subst hg; exact ih i _ hc
      have : RF w S' (PV.frz g u pv) v := by
        induction hf2 with
        | agg cs vs hn hr ih => rw [PV.frz]; exact .agg _ vs (by rw [frzL_len, hn]) (lst2 ih)
        | tup cs vs hn hr ih => rw [PV.frz]; exact .tup _ vs (by rw [frzL_len, hn]) (lst2 ih)
        | fn f cs vs hn hr ih => rw [PV.frz]; exact .fn f _ vs (by rw [frzL_len, hn]) (lst2 ih)
        | undef v => exact .undef v
        | lit v => exact .lit v
        | nl => exact .nl
        | fmap m b hb hm => exact .fmap m b hb hm
        | sl es k a n c vf hn hk hk0 hc ha hcell h1 hr => exact .sl es k a n c vf hn hk hk0 hc ha hcell h1 hr
        | vptr cs off ad vf hS hcell hr => exact .vptr cs off ad vf hS hcell hr
      exact .free _ _ this
    | row k e he h1 =>
      cases k with
      | top g' =>
        rw [PV.frz]
        split
        · rename_i hbq
          have := Nat.eq_of_beq_eq_true hbq
          subst this
          rcases hu with hu | ⟨m, _, rfl⟩
          · have := hrow hu
            obtain ⟨_, _, es, _, rfl⟩ := hu
            exact .free _ _ this
          · exact .free _ _ (.undef _)
        · exact .row (P := P) (c := c') _ e he h1
      | sub g' i j =>
        rw [PV.frz]
        split
        · exact .free _ _ (.undef _)
        · exact .row (P := P) (c := c') _ e he h1
    | part k e lo n A cc he hn hA => rw [PV.frz]; split; exact .free _ _ (.undef _); exact .part (c := c') k e lo n A cc he hn hA
    | rptr k e i off he => rw [PV.frz]; split; exact .free _ _ (.undef _); exact .rptr (c := c') k e i off he
    | ptr g' off => rw [PV.frz]; split; exact .free _ _ (.undef _); exact .ptr (c := c') g' off
    | mp g' =>
      rw [PV.frz]
      split
      · rename_i hbq
        have := Nat.eq_of_beq_eq_true hbq
        subst this
        rcases hu with ⟨_, _, es, _, rfl⟩ | hu
        · exact .free _ _ (.undef _)
        · have := hmap hu
          obtain ⟨m, _, rfl⟩ := hu
          exact .free _ _ this
      · exact .mp (c := c') g'
    | agg cs vs hn hr ih => rw [PV.frz]; exact .agg _ vs (by rw [frzL_len, hn]) (lst ih)
    | tup cs vs hn hr ih => rw [PV.frz]; exact .tup _ vs (by rw [frzL_len, hn]) (lst ih)
    | fn f cs vs hn hr ih => rw [PV.frz]; exact .fn f _ vs (by rw [frzL_len, hn]) (lst ih)
  have hget : ∀ (hp : HP) (g' : Nat), (hp.frz g u).get g' = if g' = g then none else (hp.get g').map (HO.frz g u) := by
    intro hp g'
    induction hp with
    | nil => simp [HP.frz, HP.get]
    | cons x hp ih =>
      obtain ⟨g2, o⟩ := x
      simp only [HP.frz]
      by_cases e : g2 = g
      · subst e
        simp only [Nat.beq_refl, if_true, ih]
        by_cases e2 : g' = g2
        · simp [e2]
        · simp [e2, HP.get, beq_ff e2]
      · simp only [beq_ff e, Bool.false_eq_true, if_false, HP.get]
        by_cases e2 : g' = g2
        · subst e2; simp [e]
        · simp only [beq_ff e2, Bool.false_eq_true, if_false]; exact ih
  refine ⟨c', h.below, hok, fun b hb => hSS b (h.sub b hb), hsup, fun i => ?_, fun g' o hg' => ?_, fun g' hg' => h.pin g' hg', h.small, h.size, h.defers⟩
  · have : (σ.frz g u).get i = PV.frz g u (σ.get i) := get_map _ rfl _ _
    rw [this]
    exact main _ _ (h.slots i)
  · have hgg : (σ.frz g u).hget g' = (σ.h.frz g u).get g' := rfl
    rw [hgg, hget] at hg'
    split at hg'
    · cases hg'
    · rename_i hne
      simp only [Option.map_eq_some_iff] at hg'
      obtain ⟨o2, ho2, rfl⟩ := hg'
      have r := h.objs g' o2 ho2
      cases o2 with
      | box cs =>
        obtain ⟨h1, vs, T, h2, h3, h4⟩ := r
        refine ⟨⟨h1, hne⟩, vs, T, h2, by rw [frzL_len, h3], fun i pv hgi => ?_⟩
        rw [frzL_get] at hgi
        cases hc : cs[i]? <;> simp [hc] at hgi
        subst hgi
        exact main _ _ (h4 i _ hc)
      | row e J es =>
        obtain ⟨xs, r⟩ := r
        exact ⟨xs, RowRep.keep (c := c) (c' := c') ⟨rfl, rfl, rfl⟩ (fun hD => ⟨rfl, ⟨hD, hne⟩⟩) (fun i j pv v hc => CellRep.keep (c := c) (c' := c') (fun _ _ => rfl) hSS (fun _ _ => ⟨rfl, rfl, rfl⟩) (fun k hk hD => ⟨rfl, ⟨hD, by rw [hk]; exact hne⟩⟩) i j pv v hc) r⟩
      | map m =>
        obtain ⟨h1, h2⟩ := r
        exact ⟨⟨h1, hne⟩, h2⟩
      | it l u =>
        obtain ⟨h1, h2⟩ := r
        exact ⟨⟨h1, hne⟩, h2.same (fun b hb => ⟨rfl, hSS b hb⟩) rfl⟩
end
end Go.VI
