/- Regions that draw their order: rules. -/
import Derived.Test.YtppmnjiibmomoaaVHDraw
set_option linter.unusedVariables false
set_option linter.unusedSimpArgs false
set_option linter.unusedSectionVars false
namespace Go.VI
open Go.RowKit

def TailOk (ops : Array Oper) (m : Nat) : Prop := (∀ j o, ops.toList[j]? = some o → ∀ k ∈ direct o, k < j) ∧ ∀ i j, i < j → m ≤ j → j < ops.toList.length → Reach ops i j
/-- the operations from the k-th on, one after another -/
def EVO (G : Prg) (ops : Array Oper) (k : Nat) (σ : St) (K : St → Prop) : Prop :=
  ∀ (E : Ent) (S0 : Nat → Prop) (N : Nat) (a : Act) (w : World) (c : Ctx), (∀ o ∈ ops.toList, ∀ k, o.dst = some k → k < N) → Inv G.P E S0 N σ a w c → TailOk ops k →
    ∀ (Q : Exit → Act → World → Prop), (∀ σ' a' w' c', K σ' → Inv G.P E S0 N σ' a' w' c' → Q .normal a' w') →
      ∀ listed : Array Bool, listed.size = ops.toList.length → (∀ j, j < ops.toList.length → (listed.getD j false = true ↔ j < k)) → wpAny G.P .any ops Q (ops.toList.length - k) listed a w
section
variable {G : Prg} {ops : Array Oper} {k : Nat} {σ : St} {K : St → Prop}
theorem evo_end (h : Nat.ble ops.size k = true) (hk : K σ) : EVO G ops k σ K := by
  intro E S0 N a w c hd hi ht Q hn listed hs hL
  have hle : ops.toList.length ≤ k := by have := Nat.le_of_ble_eq_true h; simpa using this
  have hr : Region.ready .any ops listed = [] := by
    cases hr : Region.ready .any ops listed with
    | nil => rfl
    | cons x xs =>
      obtain ⟨q1, o, q2, _⟩ := ready_direct (i := x) (by rw [hr]; simp)
      have hx := len_of_get q2
      rw [getD_both hs hx] at q1
      rw [(hL x hx).2 (by omega)] at q1
      cases q1
  rw [show ops.toList.length - k = 0 from by omega]
  exact ⟨hr, hn _ _ _ _ hk hi⟩
theorem evo_one {o : Oper} (hj : opAt ops k = some o) {b : Bool} (hg : pguard ops σ o = some b) (h1 : b = true → OpSem G.P o σ (fun σ' => EVO G ops (k + 1) σ' K)) (h2 : b = false → EVO G ops (k + 1) (setO σ o.dst (.lit undef)) K) : EVO G ops k σ K := by
  intro E S0 N a w c hd h D Q hn listed hs hL
  have hjl : k < ops.toList.length := len_of_get hj
  have hready : k ∈ Region.ready .any ops listed := direct_ready (by
      rw [getD_both hs hjl]
      cases hq : listed.getD k false with
      | false => rfl
      | true => have := (hL k hjl).1 hq; omega) hj fun k' hk => (hL k' (by have := D.1 k o hj k' hk; omega)).2 (D.1 k o hj k' hk)
  rw [show ops.toList.length - k = (ops.toList.length - (k + 1)) + 1 from by omega]
  refine ⟨(fun hr => by rw [hr] at hready; cases hready), fun i hi => ?_⟩
  obtain ⟨q1, oi, q2, q3⟩ := ready_direct hi
  have hil := len_of_get q2
  rw [getD_both hs hil] at q1
  have hij : ¬ i < k := fun e => by rw [(hL i hil).2 e] at q1; cases q1
  have hclosed : Closed ops (fun k => listed.getD k false = true) := fun k1 ok hk hl k' hk' => by
    have hkl := len_of_get hk
    have := (hL k1 hkl).1 hl
    have := D.1 k1 ok hk k' hk'
    exact (hL k' (by omega)).2 (by omega)
  have hie : i = k := by
    rcases Nat.lt_or_ge k i with q | q
    · have := reach_listed hclosed (D.2 k i q (by omega) hil) oi q2 q3
      have := (hL k hjl).1 this
      omega
    · omega
  subst hie
  have hj' : ops.toList[i]? = some o := hj
  rw [hj'] at q2
  injection q2 with q2
  subst q2
  have hnext : ∀ {σ' : St} {a' : Act} {w' : World} {c' : Ctx}, EVO G ops (i + 1) σ' K → Inv G.P E S0 N σ' a' w' c' → wpAny G.P .any ops Q (ops.toList.length - (i + 1)) (listed.setIfInBounds i true) a' w' := fun hk hi => by
    refine hk E S0 N _ _ _ hd hi ⟨D.1, fun x y h1 h2 h3 => D.2 x y h1 (by omega) h3⟩ Q hn _ (by simpa using hs) fun k' hk' => ?_
    rw [set_listed hs hjl]
    by_cases e : k' = i
    · subst e; simp
    · rw [if_neg e, hL k' hk']; omega
  have hiA : ops[i]? = some o := by rw [← Array.getElem?_toList]; exact hj'
  unfold wpOp
  simp only [hiA]
  cases b with
  | true =>
    rw [if_pos (pguard_ok h hg)]
    exact .inl (h1 rfl E S0 N a w c h (hd o (List.mem_of_getElem? hj')) _ _ fun σ' a' w' c' hk hi => hnext hk hi)
  | false =>
    rw [if_neg (by rw [pguard_ok h hg]; simp)]
    exact hnext (h2 rfl) (h.put o.dst (hd o (List.mem_of_getElem? hj')) (.free _ _ (.lit _)))
theorem evo_sub {σ' : St} (hs : Sub σ' σ) (h : EVO G ops k σ' K) : EVO G ops k σ K := fun E S0 N a w c hd hi => h E S0 N a w c hd (sub_inv hs hi)
theorem evo_set (σ' : St) (h : atS σ' σ = asS σ') (s : EVO G ops k σ' K) : EVO G ops k σ K := evo_sub (sub_map h) s
theorem evo_op {r : Res} (h : stepAt G ops k σ = some r) (next : EVO G ops (k + 1) (r.put σ (dstAt ops k)) K) : EVO G ops k σ K := by
  unfold stepAt at h
  cases ho : opAt ops k with
  | none => rw [ho] at h; cases h
  | some o =>
    rw [ho] at h
    have hd : dstAt ops k = o.dst := by unfold dstAt; rw [ho]; rfl
    rw [hd] at next
    simp only at h
    cases hg : pguard ops σ o with
    | none => rw [hg] at h; cases h
    | some b =>
      rw [hg] at h
      cases b with
      | true =>
        refine evo_one ho hg (fun _ => ?_) fun e => nomatch e
        simp only at h
        split at h
        · intro E S0 N a w c hi hd nx Q hn
          exact peop_ok G.hE hi hd h nx Q fun a' w' c' hi' => hn _ _ _ _ next hi'
        · cases h
      | false =>
        refine evo_one ho hg (fun e => nomatch e) fun _ => ?_
        simp only [Option.some.injEq] at h
        subst h
        rw [put_eq] at next
        exact next
theorem evo_run (n : Nat) (h : (runK G ops k n σ).isSome = true) (next : EVO G ops (k + n) (runD G ops k n σ) K) : EVO G ops k σ K := by
  induction n generalizing k σ with
  | zero => exact next
  | succ n ih =>
    simp only [runK] at h
    simp only [runD, runK] at next
    cases hs : stepAt G ops k σ with
    | none => rw [hs] at h; cases h
    | some r =>
      rw [hs] at h next
      refine evo_op hs (ih h ?_)
      rw [show k + 1 + n = k + (n + 1) from by omega]
      exact next
theorem evo_callE {o : Oper} (ho : opAt ops k = some o) (hg : pguard ops σ o = some true) {f : Nat} {args : List PV} {R R1 : TL} {vis : List Nat} {qs : List PV} {H0 : HP} {r : PV} {H1 : HP} (hc : pcallee σ o.op = some (f, args))
    (hK : CallE G.P f args o.dst σ R R1 vis qs H0 r H1 (fun σ' => EVO G ops (k + 1) σ' K)) : EVO G ops k σ K :=
  evo_one ho hg (fun _ E S0 N a w c hi hd next Q hn => callE_ok hc hK hi hd next Q hn) fun e => nomatch e
theorem evo_freeze (g : Nat) (u : PV) (hg : Nat.blt g PIN = true) (hu : (∃ e J es, σ.hget g = some (.row e J es) ∧ u = .sl es) ∨ ∃ m, σ.hget g = some (.map m) ∧ u = .fmap m) (next : EVO G ops k (σ.frz g u) K) : EVO G ops k σ K := fun E S0 N a w c hd hi ht Q hn => by
  obtain ⟨c', hi'⟩ := hi.freeze (by simpa using hg) hu
  exact next E S0 N a w c' hd hi' ht Q hn
theorem evo_split (b : Bool) (σf : Bool → St) (h : atS (σf b) σ = asS (σf b)) (ht : b = true → EVO G ops k (σf true) K) (hf : b = false → EVO G ops k (σf false) K) : EVO G ops k σ K := by
  refine evo_set _ h ?_
  cases b
  · exact hf rfl
  · exact ht rfl
theorem evo_mono {K' : St → Prop} (hk : ∀ τ, K' τ → K τ) (h : EVO G ops k σ K') : EVO G ops k σ K := fun E S0 N a w c hd hi ht Q hn => h E S0 N a w c hd hi ht Q fun σ' a' w' c' hK hI => hn σ' a' w' c' (hk _ hK) hI
end

section
variable {G : Prg} {ops : Array Oper} {D : DD}
/-- the part whose operations may change places -/
theorem draw_ok {m : Nat} (Dk : DOk ops D m) {E : Ent} {S0 : Nat → Prop} {N : Nat} (hall : ∀ o ∈ ops.toList, ∀ k, o.dst = some k → k < N) (Q : Exit → Act → World → Prop) {K : St → Prop} (hn : ∀ σ' a' w' c', K σ' → Inv G.P E S0 N σ' a' w' c' → Q .normal a' w') :
    ∀ (n : Nat) (l : List Nat) (listed : Array Bool) {σ σ' : St} {a : Act} {w : World} {c : Ctx}, l.length = n → l.Pairwise (· < ·) → (∀ k ∈ l, k < m) → listed.size = ops.toList.length → (∀ k, k < ops.toList.length → (listed.getD k false = true ↔ k < m ∧ k ∉ l)) →
      Closed ops (fun k => listed.getD k false = true) → (∀ i ∈ l, Clean (D.F i) σ) →
      ∀ {σ0 : St}, DRun G.P ops D l σ σ' → Alike σ0 σ' → EVO G ops m σ0 K → Inv G.P E S0 N σ a w c → wpAny G.P .any ops Q (n + (ops.toList.length - m)) listed a w
  | 0, l, listed, σ, σ', a, w, c, hl, hp, hm, hs, hL, hc, hna, σ0, hrun, he0, hK, h => by
    have : l = [] := List.eq_nil_of_length_eq_zero hl
    subst this
    cases hrun
    have := hK E S0 N a w c hall (h.alike he0.symm) ⟨Dk.back, Dk.tail⟩ Q hn listed hs (fun k hk => by rw [hL k hk]; simp)
    simpa using this
  | n + 1, l, listed, σ, σ', a, w, c, hl, hp, hm, hs, hL, hc, hna, σ0, hrun, he0, hK, h => by
    have hidx : ∀ i ∈ l, i < ops.toList.length := fun i hi => Nat.lt_of_lt_of_le (hm i hi) Dk.le
    -- the least one is ready
    have hne : Region.ready .any ops listed ≠ [] := by
      cases l with
      | nil => simp at hl
      | cons i l =>
        have hil := hidx i (by simp)
        intro hr
        have : i ∈ Region.ready .any ops listed := direct_ready (o := ops.toList[i]) (by
            rw [getD_both hs hil]
            cases hq : listed.getD i false with
            | false => rfl
            | true => have := (hL i hil).1 hq; simp at this) (List.getElem?_eq_getElem hil) fun k hk => by
          have hki := Dk.back i _ (List.getElem?_eq_getElem hil) k hk
          have him := hm i (by simp)
          refine (hL k (by omega)).2 ⟨by omega, fun hkl => ?_⟩
          rcases List.mem_cons.1 hkl with rfl | hkl
          · omega
          · have := (List.pairwise_cons.1 hp).1 k hkl; omega
        rw [hr] at this
        cases this
    rw [show n + 1 + (ops.toList.length - m) = n + (ops.toList.length - m) + 1 from by omega]
    refine ⟨fun hr => absurd hr hne, fun i hi => ?_⟩
    obtain ⟨q1, oi, q2, q3⟩ := ready_direct hi
    have hil : i < ops.toList.length := by
      rcases Nat.lt_or_ge i ops.toList.length with q | q
      · exact q
      · rw [List.getElem?_eq_none q] at q2; cases q2
    rw [getD_both hs hil] at q1
    have him : i ∈ l := by
      apply Classical.byContradiction
      intro hn'
      by_cases hlt : i < m
      · have := (hL i hil).2 ⟨hlt, hn'⟩
        rw [this] at q1; cases q1
      · cases l with
        | nil => simp at hl
        | cons j l =>
          have hj := hm j (by simp)
          have := reach_listed hc (Dk.tail j i (by omega) (by omega) hil) oi q2 q3
          have := (hL j (by omega)).1 this
          exact this.2 (by simp)
    obtain ⟨l1, l2, rfl⟩ := List.append_of_mem him
    have hp1 := List.pairwise_append.1 hp
    have hap : ∀ j ∈ l1, ∀ oj, ops.toList[j]? = some oj → Apart ops D j i oj oi := fun j hj oj hoj => by
      have hji : j < i := hp1.2.2 j hj i (by simp)
      rcases Dk.pair j i oj oi hoj q2 hji (hm i him) with r | r
      · have := reach_listed hc r oi q2 q3
        have := (hL j (by have := hm i him; have := Dk.le; omega)).1 this
        exact absurd (by simp [hj]) this.2
      · exact r
    obtain ⟨σ2, r2, e2⟩ := hrun.front q2 hap
    cases r2 with
    | cons ho hst hav htc hfv r2 =>
      rename_i o2 A
      rw [q2] at ho
      injection ho with ho
      subst ho
      refine dstep_ok q2 hst h (hna i him) (hall oi (List.mem_of_getElem? q2)) _ Q fun a' w' c' hinv => ?_
      have hnm : ∀ k, k ∈ l1 ++ l2 ↔ k ∈ l1 ++ i :: l2 ∧ k ≠ i := by
        intro k
        simp only [List.mem_append, List.mem_cons]
        constructor
        · rintro (q | q)
          · exact ⟨.inl q, fun e => by subst e; have := hp1.2.2 k q k (by simp); omega⟩
          · exact ⟨.inr (.inr q), fun e => by subst e; have := (List.pairwise_cons.1 hp1.2.1).1 k q; omega⟩
        · rintro ⟨q | q | q, hne⟩
          · exact .inl q
          · exact absurd q hne
          · exact .inr q
      refine draw_ok Dk hall Q hn n (l1 ++ l2) (listed.setIfInBounds i true) (by simp at hl ⊢; omega) ?_ (fun k hk => hm k ((hnm k).1 hk).1) (by simpa using hs) (fun k hk => ?_) (fun k ok hok hlk k' hk' => ?_) (fun j hj => ?_) r2 (he0.trans e2) hK hinv
      · exact List.pairwise_append.2 ⟨hp1.1, (List.pairwise_cons.1 hp1.2.1).2, fun x hx y hy => hp1.2.2 x hx y (by simp [hy])⟩
      · rw [set_listed hs hil]
        by_cases e : k = i
        · subst e; simp only [if_true, true_iff]; exact ⟨hm k him, fun q => ((hnm k).1 q).2 rfl⟩
        · rw [if_neg e, hL k hk, hnm k]
          constructor
          · rintro ⟨x, y⟩; exact ⟨x, fun z => y z.1⟩
          · rintro ⟨x, y⟩; exact ⟨x, fun z => y ⟨z, e⟩⟩
      · simp only [set_listed hs hil] at hlk ⊢
        by_cases e : k' = i
        · rw [if_pos e]
        · rw [if_neg e]
          by_cases e2 : k = i
          · subst e2
            rw [q2] at hok
            injection hok with hok
            subst hok
            exact q3 k' hk'
          · rw [if_neg e2] at hlk
            exact hc k ok hok hlk k' hk'
      · have hjl := (hnm j).1 hj
        obtain ⟨c1, c2⟩ := hna j hjl.1
        have hF : ∀ g ∈ D.F j, g ∈ D.fv i := by
          rcases Dk.fresh j i (hm j hjl.1) (hm i him) (Ne.symm hjl.2) with r | r
          · have := reach_listed hc r oi q2 q3
            have hjlen := hidx j hjl.1
            have := (hL j hjlen).1 this
            exact absurd hjl.1 this.2
          · exact r
        refine ⟨fun k => ?_, fun g o hg => ?_⟩
        · rw [act_get]
          split
          · exact avoid_sub hfv.1 hF
          · exact c1 k
        · rw [act_hget] at hg
          split at hg
          · have hmem : (g, o) ∈ A.sets := by
              have : ∀ (L : HP), L.get g = some o → (g, o) ∈ L := by
                intro L
                induction L with
                | nil => intro h; cases h
                | cons x L ih =>
                  obtain ⟨g', o'⟩ := x
                  intro h
                  simp only [HP.get] at h
                  split at h
                  · rename_i hb
                    have := Nat.eq_of_beq_eq_true hb
                    injection h with h
                    subst this h
                    simp
                  · exact List.mem_cons_of_mem _ (ih h)
              exact this _ hg
            obtain ⟨p1, p2⟩ := hfv.2 _ hmem
            refine ⟨fun q => p1 (hF g q), ?_⟩
            cases o with
            | box cs =>
              refine List.all_eq_true.2 fun x hx => ?_
              exact avoid_sub (List.all_eq_true.1 p2 x hx) hF
            | _ => rfl
          · exact c2 g o hg

/-- the tags are forgotten -/
def killT (L : List Nat) (k : Key) : Bool := L.any fun x => Nat.beq x k.tag
theorem kill_inv {P : Program} {E : Ent} {S0 : Nat → Prop} {N : Nat} {σ : St} {a : Act} {w : World} {c : Ctx} (h : Inv P E S0 N σ a w c) {L : List Nat} (hL : L.all (fun g => Nat.blt g PIN) = true) : Inv P E S0 N (σ.kill (killT L)) a w c := by
  refine h.step (killT L) (fun g => g ∈ L) h.below h.ok (fun _ _ => rfl) (fun _ h => h) h.sup (fun k hk hp => ?_) (fun k _ => Agree.refl c k) (fun k hD _ => ⟨rfl, hD⟩) (fun k hk => any_beq.1 hk) rfl (fun g o _ hg => hg) fun g o hx hg => ?_
  · have := List.all_eq_true.1 hL _ (any_beq.1 hp)
    have : k.tag < PIN := by simpa using this
    omega
  · rw [hget_kill] at hg
    have : killT L (.top g) = true := any_beq.2 hx
    rw [if_pos this] at hg; cases hg
mutual
theorem has_less {p q : Key → Bool} (hpq : ∀ k, p k = false → q k = false) : ∀ v : PV, v.has p = false → v.has q = false
  | .undef, _ => rfl
  | .lit _, _ => rfl
  | .nl, _ => rfl
  | .sl _, _ => rfl
  | .fmap _, _ => rfl
  | .vptr _ _, _ => rfl
  | .agg cs, h => by rw [PV.has] at h ⊢; exact hasL_less hpq cs h
  | .tup cs, h => by rw [PV.has] at h ⊢; exact hasL_less hpq cs h
  | .fn _ cs, h => by rw [PV.has] at h ⊢; exact hasL_less hpq cs h
  | .row k _, h => hpq k h
  | .part k _ _ _, h => hpq k h
  | .ptr g _, h => hpq (.top g) h
  | .rptr k _ _ _, h => hpq k h
  | .mp g, h => hpq (.top g) h
theorem hasL_less {p q : Key → Bool} (hpq : ∀ k, p k = false → q k = false) : ∀ l : List PV, PV.hasL p l = false → PV.hasL q l = false
  | [], _ => rfl
  | c :: cs, h => by simp only [PV.hasL, Bool.or_eq_false_iff] at h ⊢; exact ⟨has_less hpq c h.1, hasL_less hpq cs h.2⟩
end
theorem kill_clean {σ : St} {L F : List Nat} (hF : ∀ g ∈ F, g ∈ L) : Clean F (σ.kill (killT L)) := by
  have av : ∀ v : PV, Avoid F (v.kill (killT L)) = true := fun v => List.all_eq_true.2 fun g hg => by
    rw [has_less (p := killT L) (q := ofTag g) (fun k hk => by
      rw [ofTag_ff]; intro e
      have : killT L k = true := any_beq.2 (e ▸ hF g hg)
      rw [this] at hk; cases hk) _ (has_kill (killT L) v)]
    rfl
  refine ⟨fun k => by rw [get_kill]; exact av _, fun g o hg => ?_⟩
  rw [hget_kill] at hg
  split at hg
  · cases hg
  · rename_i hp
    simp only [Option.map_eq_some_iff] at hg
    obtain ⟨o', _, rfl⟩ := hg
    refine ⟨fun hgF => hp (any_beq.2 (hF g hgF)), ?_⟩
    cases o' with
    | box cs =>
      refine List.all_eq_true.2 fun x hx => ?_
      obtain ⟨i, hi⟩ := List.mem_iff_getElem?.1 hx
      rw [killL_get] at hi
      simp only [Option.map_eq_some_iff] at hi
      obtain ⟨y, _, rfl⟩ := hi
      exact av y
    | _ => rfl
end

/-! ### rules -/
/-- The operations from the k-th to the m-th, in some order. -/
def EVD (G : Prg) (ops : Array Oper) (D : DD) (m k : Nat) (σ : St) (K : St → Prop) : Prop := ∃ σ', DRun G.P ops D (List.range' k (m - k)) σ σ' ∧ K σ'
section
variable {G : Prg} {ops : Array Oper} {D : DD} {m k : Nat} {σ : St} {K : St → Prop}
theorem evd_end (h : Nat.ble m k = true) (hk : K σ) : EVD G ops D m k σ K := by
  refine ⟨σ, ?_, hk⟩
  rw [show m - k = 0 from by have := Nat.le_of_ble_eq_true h; omega]
  exact .nil σ
theorem evd_one {o : Oper} (hm : Nat.ble m k = false) (ho : opAt ops k = some o) (A : Deed) (hs : DStep G.P ops o (D.rd k) (D.F k) σ A) (hav : (odeep ops o).all (fun t => Avoid (D.av k) (σ.get t)) = true) (ht : inL A.touch (D.T k) = true)
    (hfv : (Avoid (D.fv k) A.v && A.sets.all fun x => !((D.fv k).any fun y => Nat.beq y x.1) && x.2.avoid (D.fv k)) = true) (next : EVD G ops D m (k + 1) (σ.act o.dst A) K) : EVD G ops D m k σ K := by
  obtain ⟨σ', h1, h2⟩ := next
  have hlt : k < m := by
    rcases Nat.lt_or_ge k m with q | q
    · exact q
    · rw [Nat.ble_eq_true_of_le q] at hm; cases hm
  refine ⟨σ', ?_, h2⟩
  rw [show m - k = (m - (k + 1)) + 1 from by omega, List.range'_succ]
  simp only [Bool.and_eq_true] at hfv
  refine .cons ho hs (fun t q => List.all_eq_true.1 hav t q) (inL_spec ht) ⟨hfv.1, fun x hx => ?_⟩ h1
  have := List.all_eq_true.1 hfv.2 x hx
  simp only [Bool.and_eq_true, Bool.not_eq_true'] at this
  refine ⟨fun q => ?_, this.2⟩
  rw [any_beq.2 q] at this
  exact Bool.noConfusion this.1
theorem evd_mono {K' : St → Prop} (hk : ∀ τ, K' τ → K τ) (h : EVD G ops D m k σ K') : EVD G ops D m k σ K := by
  obtain ⟨σ', h1, h2⟩ := h
  exact ⟨σ', h1, hk _ h2⟩
theorem evd_split (b : Bool) (σf : Bool → St) (h : σ = σf b) (ht : b = true → EVD G ops D m k (σf true) K) (hf : b = false → EVD G ops D m k (σf false) K) : EVD G ops D m k σ K := by
  subst h
  cases b
  · exact hf rfl
  · exact ht rfl
end
/-- **A region that draws its order.** -/
theorem sem_draw {G : Prg} {cd : Code} {σ : St} {K : PX → St → Prop} (T F rd av fv : List (Nat × List Nat)) (m : Nat) (hk : knd cd = 2) (hok : drawOk (cOps cd) T F rd av fv m = true) (L : List Nat) (hL : L.all (fun g => Nat.blt g PIN) = true) (hF : F.all (fun x => inL x.2 L) = true)
    (h : EVD G (cOps cd) ⟨lst T, lst F, lst rd, lst av, lst fv⟩ m 0 (σ.kill (killT L)) fun σ' => EVO G (cOps cd) m σ' (K .normal)) : SEM G cd σ K := by
  cases cd <;> simp [knd] at hk
  rename_i id ops b
  cases b <;> simp [knd] at hk
  intro E S0 N a w c hd hi
  obtain ⟨σ', hrun, hev⟩ := h
  simp only [cOps, Nat.sub_zero] at hrun hev hok
  have Dk := drawOk_spec hok
  refine wp_region_any G.hmix ?_
  have hFL : ∀ i, ∀ g ∈ lst F i, g ∈ L := by
    intro i
    clear hok Dk hrun
    induction F with
    | nil => intro g hg; cases hg
    | cons x F ih =>
      obtain ⟨j, y⟩ := x
      simp only [List.all_cons, Bool.and_eq_true] at hF
      simp only [lst]
      split
      · exact inL_spec hF.1
      · exact ih hF.2
  have hdrew : Below w.heap.size w { w with drawn := w.drawn + 1 } := ⟨rfl, rfl, rfl, Nat.le_refl _, fun _ _ => rfl⟩
  have := draw_ok Dk (dstOk_all hd) (fun e a' w' => ∃ x σ' c', PX.like x e ∧ K x σ' ∧ Inv G.P E S0 N σ' a' w' c') (fun σ' a' w' c' hk hi => ⟨.normal, σ', c', trivial, hk, hi⟩) m (List.range' 0 m) (Array.replicate ops.size false) (by simp) (by rw [← List.range_eq_range']; exact List.pairwise_lt_range) (fun k hk => by simpa using hk) (by simp) (fun k hk => ?_) (fun j o _ hl k _ => ?_) (fun i hi' => kill_clean (hFL i)) hrun (Alike.rfl' _) hev (kill_inv (hi.ext hdrew) hL)
  · have e : m + (ops.toList.length - m) = ops.size := by have := Dk.le; simp at this ⊢; omega
    rwa [e] at this
  · have : (Array.replicate ops.size false).getD k false = false := by simp [Array.getD_eq_getD_getElem?, Array.getElem?_replicate]; split <;> rfl
    simp only [this, Bool.false_eq_true, false_iff, not_and, Classical.not_not]
    intro hkm
    simpa using hkm
  · have : (Array.replicate ops.size false).getD j false = false := by simp [Array.getD_eq_getD_getElem?, Array.getElem?_replicate]; split <;> rfl
    simp only [this] at hl
    cases hl
end Go.VI
