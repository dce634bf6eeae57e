/- Appends, cuts of an own row, new rows. -/
import Derived.Test.YtiodkdpfkchkjaaVIStore
import Derived.Laws.MakeOwn
set_option linter.unusedVariables false
set_option linter.unusedSimpArgs false
set_option linter.unusedSectionVars false
namespace Go.VI
open Go.RowKit

section
variable {P : Program} {w0 : Ent} {S0 : Nat → Prop} {N : Nat} {σ : St} {a : Act} {w : World} {c : Ctx}

theorem tElem_some {t e : TypeId} (h : tElem P t = some e) : P.underlying t = some (.slice e) := by
  unfold tElem at h
  split at h
  · rename_i he; injection h with h; subst h; exact he
  · cases h
theorem tRow_some {e : TypeId} (h : tRow P e = true) : ∃ i z, P.info? e = some i ∧ i.zero = some z ∧ 0 < i.size ∧ i.bytes ≤ 65536 ∧ z.cells.size = i.size ∧ i.size = tSize P e := by
  unfold tRow at h
  cases hi : P.info? e with
  | none => simp [hi] at h
  | some i =>
    simp only [hi, Bool.and_eq_true, decide_eq_true_eq] at h
    cases hz : i.zero with
    | none => simp [hz] at h
    | some z =>
      simp only [hz, decide_eq_true_eq] at h
      exact ⟨i, z, rfl, hz, h.1.1, h.1.2, h.2, by simp [tSize, Program.cellsOf, hi]⟩

/-- What a slice's elements are in memory. -/
theorem elems_rep {x : PV} {X : Value} (r : RV P w c x X) {es : List (List PV)} (he : x.elems = some es) {k : Nat} (hk : ∀ l ∈ es, l.length = k) (hk0 : 0 < k) :
    ∃ A cc, ∃ news : List Value, X = .slice A es.length cc ∧ news.length = es.length * k ∧ (es ≠ [] → ∃ ad, A = some ad) ∧ (∀ ad, A = some ad → ∀ (j : Nat) u, news[j]? = some u → w.cell? (ad.add j) = some u) ∧
      (∀ u ∈ news, u.oneCell' = true) ∧ (∀ i j pv, getE es i j = some pv → RF w c.S pv (news.getD (i * k + j) undef)) := by
  have hnil : ∀ (A : Option Addr) (cc : Nat), es = [] → ∃ A' cc', ∃ news : List Value, Value.slice A 0 cc = .slice A' es.length cc' ∧ news.length = es.length * k ∧ (es ≠ [] → ∃ ad, A' = some ad) ∧ (∀ ad, A' = some ad → ∀ (j : Nat) u, news[j]? = some u → w.cell? (ad.add j) = some u) ∧
      (∀ u ∈ news, u.oneCell' = true) ∧ (∀ i j pv, getE es i j = some pv → RF w c.S pv (news.getD (i * k + j) undef)) := by
    intro A cc h
    subst h
    exact ⟨A, cc, [], rfl, by simp, by simp, by simp, by simp, by simp [getE]⟩
  cases r with
  | free pv v h =>
    cases h with
    | undef => simp [PV.elems] at he
    | lit => simp [PV.elems] at he
    | agg => simp [PV.elems] at he
    | tup => simp [PV.elems] at he
    | vptr => simp [PV.elems] at he
    | fn => simp [PV.elems] at he
    | nl => simp [PV.elems] at he; exact hnil none 0 he
    | sl es' k' A n cc vf hn hk' hk0' hc ha hcell h1 hr =>
      simp [PV.elems] at he
      subst he
      subst hn
      by_cases hne : es' = []
      · subst hne; exact hnil A cc rfl
      · obtain rfl : k' = k := by
          cases es' with
          | nil => exact absurd rfl hne
          | cons l ls => rw [← hk' l (by simp), ← hk l (by simp)]
        have get : ∀ q, q < es'.length * k' → ∃ pv, getE es' (q / k') (q % k') = some pv ∧ q = q / k' * k' + q % k' := by
          intro q hq
          have h1 : q / k' < es'.length := Nat.div_lt_of_lt_mul (by rwa [Nat.mul_comm])
          have h2 : q % k' < k' := Nat.mod_lt _ hk0
          have hl := hk (es'[q / k']) (List.getElem_mem h1)
          refine ⟨(es'[q / k'])[q % k'], by unfold getE; simp [h1, hl, h2], ?_⟩
          have := Nat.div_add_mod q k'
          rw [Nat.mul_comm]; omega
        have nget : ∀ q, q < es'.length * k' → ((List.range (es'.length * k')).map fun q => vf (q / k') (q % k'))[q]? = some (vf (q / k') (q % k')) := by
          intro q hq
          simp [hq]
        refine ⟨A, cc, (List.range (es'.length * k')).map fun q => vf (q / k') (q % k'), rfl, by simp, fun hne => ?_, fun ad had j u hj => ?_, fun u hu => ?_, fun i j pv hg => ?_⟩
        · obtain ⟨ad, h, _⟩ := ha hne; exact ⟨ad, h⟩
        · have hlt : j < es'.length * k' := by
            rcases Nat.lt_or_ge j (es'.length * k') with h | h
            · exact h
            · rw [List.getElem?_eq_none (by simpa using h)] at hj; cases hj
          rw [nget j hlt] at hj
          injection hj with hj
          subst hj
          obtain ⟨pv, hg, he⟩ := get j hlt
          have := hcell ad had _ _ pv hg
          rwa [← he] at this
        · rw [List.mem_map] at hu
          obtain ⟨q, hq, rfl⟩ := hu
          obtain ⟨pv, hg, _⟩ := get q (by simpa using hq)
          exact h1 _ _ pv hg
        · have hlt := getE_lt hk hg
          have hq := idx_lt hlt.1 hlt.2
          rw [List.getD_eq_getElem?_getD, nget _ hq]
          have e1 : (i * k' + j) / k' = i := by rw [Nat.add_comm, Nat.add_mul_div_right _ _ hk0, Nat.div_eq_of_lt hlt.2]; omega
          have e2 : (i * k' + j) % k' = j := by rw [Nat.add_comm, Nat.add_mul_mod_self_right, Nat.mod_eq_of_lt hlt.2]
          rw [e1, e2]
          exact hr i j pv hg
  | own g e es' v xs hk0' hk' ho hb h1 hr =>
    simp [PV.elems] at he
    subst he
    rcases ho.2 with ⟨rfl, hn⟩ | ⟨g2, cap, cur, rfl, hb2, hg2, hnc, rest⟩
    · exact hnil none 0 (List.eq_nil_of_length_eq_zero hn)
    · by_cases hne : es' = []
      · subst hne; exact hnil _ cap rfl
      · obtain rfl : tSize P e = k := by
          cases es' with
          | nil => exact absurd rfl hne
          | cons l ls => rw [← hk' l (by simp), ← hk l (by simp)]
        refine ⟨_, cap, xs, rfl, ho.1, fun _ => ⟨_, rfl⟩, fun ad had j u hj => ?_, fun u hu => ?_, hr⟩
        · injection had with had
          subst had
          exact World.ownsRow.cells ho rfl j u hj
        · obtain ⟨q, hq⟩ := List.mem_iff_getElem?.1 hu
          have hlt : q < es'.length * tSize P e := by
            rcases Nat.lt_or_ge q xs.length with h | h
            · rw [← ho.1]; exact h
            · rw [List.getElem?_eq_none h] at hq; cases hq
          have h1' : q / tSize P e < es'.length := Nat.div_lt_of_lt_mul (by rwa [Nat.mul_comm])
          have h2' : q % tSize P e < tSize P e := Nat.mod_lt _ hk0
          have hl := hk (es'[q / tSize P e]) (List.getElem_mem h1')
          have := h1 (q / tSize P e) (q % tSize P e) ((es'[q / tSize P e])[q % tSize P e]) (by unfold getE; simp [h1', hl, h2'])
          have e := Nat.div_add_mod q (tSize P e)
          rw [Nat.mul_comm, e, List.getD_eq_getElem?_getD, hq] at this
          exact this
  | _ => simp [PV.elems] at he

/-- the row behind an append, cell by cell -/
theorem append_get {es es2 : List (List PV)} {k : Nat} (hk : ∀ l ∈ es, l.length = k) (hk2 : ∀ l ∈ es2, l.length = k) {xs news : List Value} (hl : xs.length = es.length * k) {i j : Nat} {pv : PV}
    (h : getE (es ++ es2) i j = some pv) : (getE es i j = some pv ∧ (xs ++ news).getD (i * k + j) undef = xs.getD (i * k + j) undef) ∨
      (∃ i', i = es.length + i' ∧ getE es2 i' j = some pv ∧ (xs ++ news).getD (i * k + j) undef = news.getD (i' * k + j) undef) := by
  have hall : ∀ l ∈ es ++ es2, l.length = k := fun l hl => (List.mem_append.1 hl).elim (hk l) (hk2 l)
  have hlt := getE_lt hall h
  by_cases hi : i < es.length
  · left
    have hg : getE es i j = some pv := by unfold getE at h ⊢; rwa [List.getElem?_append_left hi] at h
    refine ⟨hg, ?_⟩
    have := idx_lt hi hlt.2
    simp only [List.getD_eq_getElem?_getD]
    rw [List.getElem?_append_left (by omega)]
  · right
    refine ⟨i - es.length, by omega, by unfold getE at h ⊢; rwa [List.getElem?_append_right (by omega)] at h, ?_⟩
    simp only [List.getD_eq_getElem?_getD]
    have e : i * k + j = xs.length + ((i - es.length) * k + j) := by
      rw [hl]
      have : es.length * k + (i - es.length) * k = i * k := by rw [← Nat.add_mul]; congr 1; omega
      omega
    rw [e, List.getElem?_append_right (by omega)]
    congr 2
    omega

theorem run_append_any (base : Nat) (t ty e : TypeId) (i : TypeInfo) (z : Value) (size : Nat) (ht : P.underlying t = some (.slice e)) (hi : P.info? e = some i) (hz : i.zero = some z)
    (hsize : i.size = size) (hby : i.bytes ≤ 65536) (hzs : z.cells.size = i.size) (hsz : 0 < size)
    (v : Value) (n : Nat) (xs : List Value) (hown : w.ownsRow base e size v n xs)
    (A : Option Addr) (m cc : Nat) (news : List Value) (hl : news.length = m * size) (hA : m ≠ 0 → ∃ ad, A = some ad) (hnews : ∀ ad, A = some ad → ∀ (j : Nat) u, news[j]? = some u → w.cell? (ad.add j) = some u)
    (h1 : ∀ u ∈ news, u.oneCell' = true) (hlim : n + m ≤ LIM) (hbase : base ≤ w.heap.size) :
    ∃ v' w', (Builtin.append_ #[t, t] ty #[v, .slice A m cc]).run P w = .ok v' w' ∧ w'.ownsRow base e size v' (n + m) (xs ++ news) ∧ w.grownBy w' v.ownBlock ∧
      (v'.ownBlock = v.ownBlock ∨ v'.ownBlock = some w.heap.size) := by
  cases A with
  | some ad =>
    have hb : (n + m) * i.bytes ≤ 140737488355328 := by
      have := Nat.mul_le_mul hlim hby
      unfold LIM at this
      omega
    obtain ⟨v', w', q1, q2, q3, _, q5⟩ := run_append_own_at (P := P) w base t ty e i z size i.bytes ht hi hz hsize rfl (by rw [hzs, hsize]) hsz v n xs hown ad m cc news hl (hnews ad rfl) h1 (by unfold LIM at hlim; unfold maxLen; omega) hb hbase
    exact ⟨v', w', q1, q2, q3, q5⟩
  | none =>
    have hm : m = 0 := by
      rcases Nat.eq_zero_or_pos m with h | h
      · exact h
      · obtain ⟨_, h⟩ := hA (by omega); cases h
    subst hm
    have hn : news = [] := List.eq_nil_of_length_eq_zero (by simpa using hl)
    subst hn
    refine ⟨v, w, ?_, by simpa using hown, ⟨rfl, rfl, rfl, Nat.le_refl _, fun _ _ _ => rfl⟩, .inl rfl⟩
    rcases hown.2 with ⟨rfl, rfl⟩ | ⟨g, cap, cur, rfl, _, _, hnc, _⟩
    · simp [Builtin.append_, run_underlying ht, sizeOf, typeInfo, hi, Builtin.lenOf, Builtin.firstCells]
    · simp [Builtin.append_, run_underlying ht, sizeOf, typeInfo, hi, Builtin.lenOf, Builtin.firstCells, hnc, storeCells]

theorem len_all {xs : List (List PV)} {k : Nat} (h : xs.all (fun c => c.length == k) = true) : ∀ l ∈ xs, l.length = k := by
  intro l hl
  have := List.all_eq_true.1 h l hl
  simpa using this

/-- the tag g's block is now b -/
def Ctx.at_ (c : Ctx) (g b : Nat) (k : Bool) : Ctx := ⟨c.S, fun g' => if g' = g then b else c.τ g', fun g' k' => if g' = g then k' = k else c.D g' k'⟩
theorem at_ok {B : Nat → Prop} {w' : World} (ok : c.Ok B w) (hsz : w.heap.size ≤ w'.heap.size) {g b : Nat} {k : Bool} (hb : B b ∧ b < w'.heap.size ∧ ¬ c.S b) (hne : ∀ g' k', g' ≠ g → c.D g' k' → c.τ g' ≠ b) : (c.at_ g b k).Ok B w' := by
  refine ⟨fun b hS => Nat.lt_of_lt_of_le (ok.hS b hS) hsz, fun g' k' hg => ?_, fun g1 k1 g2 k2 h1 h2 he => ?_⟩
  · by_cases e : g' = g
    · subst e; simpa [Ctx.at_] using hb
    · simp only [Ctx.at_, e, if_false] at hg ⊢
      exact ⟨(ok.hD g' k' hg).1, Nat.lt_of_lt_of_le (ok.hD g' k' hg).2.1 hsz, (ok.hD g' k' hg).2.2⟩
  · by_cases e1 : g1 = g <;> by_cases e2 : g2 = g
    · simp only [Ctx.at_, e1, e2, if_true] at h1 h2
      exact ⟨by rw [e1, e2], by rw [h1, h2]⟩
    · simp only [Ctx.at_, e1, e2, if_true, if_false] at h1 h2 he
      exact absurd he.symm (hne g2 k2 e2 h2)
    · simp only [Ctx.at_, e1, e2, if_true, if_false] at h1 h2 he
      exact absurd he (hne g1 k1 e1 h1)
    · simp only [Ctx.at_, e1, e2, if_false] at h1 h2 he
      exact ok.inj _ _ _ _ h1 h2 he

theorem pappend_ok {o : Oper} {t e : TypeId} {s x : Operand} {r : Res} (ho : o.op = .call { callee := .builtin .append, args := #[s, x], argTypes := #[t, t] }) (ht : tElem P t = some e) (hrow : tRow P e = true)
    (h : Inv P w0 S0 N σ a w c) (hd : ∀ k, o.dst = some k → k < N) (hr : pappend e (tSize P e) (o.dst.getD 0) (pev σ s) (pev σ x) = some r) : Does P w0 S0 N o a w (r.put σ o.dst) := by
  have rs := h.ev s
  have rx := h.ev x
  obtain ⟨i, z, hi, hz, hsz, hby, hzs, hsize⟩ := tRow_some hrow
  have hu := tElem_some ht
  have hexec : ∀ v' w', (Builtin.append_ #[t, t] o.type #[a.eval s, a.eval x]).run P w = .ok v' w' → (execOp a.eval o).run P w = .ok (.value v') w' := by
    intro v' w' hrun
    unfold execOp
    simp only [ho, resolve, invoke, builtin, Sem.run_bind, Sem.run_pure, Result.andThen_ok, List.map_toArray, List.map_cons, List.map_nil, hrun]
  generalize pev σ s = ps at *
  generalize pev σ x = px at *
  generalize a.eval s = V at *
  generalize a.eval x = X at *
  unfold pappend at hr
  cases hel : px.elems with
  | none => simp [hel] at hr
  | some es2 =>
    simp only [hel] at hr
    by_cases hall : es2.all (fun c => c.length == tSize P e) = true
    case neg => rw [if_neg hall] at hr; cases hr
    rw [if_pos hall] at hr
    have hk2 := len_all hall
    obtain ⟨A, cc, news, rfl, hnl, hA, hcell, h1, hrf⟩ := elems_rep rx hel hk2 (by omega)
    have hA' : es2.length ≠ 0 → ∃ ad, A = some ad := fun hne => hA (by rintro rfl; simp at hne)
    cases ps with
    | own g e' es =>
      simp only at hr
      by_cases hc : e = e' ∧ es.length + es2.length ≤ LIM
      case neg => rw [if_neg hc] at hr; cases hr
      rw [if_pos hc] at hr
      obtain ⟨rfl, hlim⟩ := hc
      injection hr with hr
      subst hr
      cases rs with
      | free _ _ hf => cases hf
      | own g e es v xs hk0 hk hown hb h1o hro =>
        obtain ⟨v', w', hrun, hown', hgrow, hblk⟩ := run_append_any (P := P) 0 t o.type e i z (tSize P e) hu hi hz hsize hby hzs hk0 V es.length xs hown A es2.length cc news hnl hA' hcell h1 hlim (Nat.zero_le _)
        have hVb : ∀ b, V.ownBlock = some b → w0.M b ∧ ¬ c.S b ∧ ∀ g' k', g' ≠ g → c.D g' k' → c.τ g' ≠ b := fun b hb' => by
          obtain ⟨q1, q2⟩ := hb b hb'
          have := h.ok.hD g true q1
          rw [q2] at this
          exact ⟨this.1, this.2.2, fun g' k' hne hg' e => hne (h.ok.inj _ _ _ _ hg' q1 (by rw [e, q2])).1⟩
        have hsame : ∀ b, b < w.heap.size → V.ownBlock ≠ some b → w'.heap[b]? = w.heap[b]? := fun b hb' hne => hgrow.block b hb' (Ne.symm hne)
        have hS : Same c.S w w' := fun b hS => hsame b (h.ok.hS b hS) fun e => (hVb b e).2.1 hS
        have below : w0.Fr w' := ⟨hgrow.os.trans h.below.os, hgrow.tape.trans h.below.tape, hgrow.output.trans h.below.output, Nat.le_trans h.below.size hgrow.size, fun k hk' hm => (hsame k (Nat.lt_of_lt_of_le hk' h.below.size) fun e => hm (hVb k e).1).trans (h.below.block k hk' hm)⟩
        have hlen : (xs ++ news).length = (es ++ es2).length * tSize P e := by rw [List.length_append, List.length_append, hown.1, hnl, Nat.add_mul]
        have rowf : ∀ (c' : Ctx), c'.S = c.S → (∀ b, v'.ownBlock = some b → c'.D g true ∧ c'.τ g = b) → RV P w' c' (.own g e (es ++ es2)) v' := fun c' hSS hb' => by
          refine .own g e _ v' (xs ++ news) hk0 (fun l hl => (List.mem_append.1 hl).elim (hk l) (hk2 l)) (by rw [List.length_append]; exact hown') hb' (fun i j pv hg => ?_) (fun i j pv hg => ?_)
          · rcases append_get hk hk2 hown.1 (news := news) hg with ⟨q1, q2⟩ | ⟨i', _, q1, q2⟩
            · rw [q2]; exact h1o i j pv q1
            · rw [q2]
              have hlt := getE_lt hk2 q1
              have := idx_lt hlt.1 hlt.2
              exact h1 _ (by rw [List.getD_eq_getElem?_getD, List.getElem?_eq_getElem (by omega)]; exact List.getElem_mem _)
          · rw [hSS]
            rcases append_get hk hk2 hown.1 (news := news) hg with ⟨q1, q2⟩ | ⟨i', _, q1, q2⟩
            · rw [q2]; exact (hro i j pv q1).same hS fun _ h => h
            · rw [q2]; exact (hrf i' j pv q1).same hS fun _ h => h
        cases hv' : v'.ownBlock with
        | none =>
          have hVn : V.ownBlock = none := by
            rcases hblk with h | h
            · rw [← h, hv']
            · rw [hv'] at h; cases h
          refine does_mut (c' := c) h hd (.inl (hexec _ _ hrun)) below ⟨fun b hb => Nat.lt_of_lt_of_le (h.ok.hS b hb) hgrow.size, fun g k hg => ⟨(h.ok.hD g k hg).1, Nat.lt_of_lt_of_le (h.ok.hD g k hg).2.1 hgrow.size, (h.ok.hD g k hg).2.2⟩, h.ok.inj⟩ (fun _ => Iff.rfl) rfl (fun pv v r => ?_)
            (rowf c rfl fun b hb => by rw [hv'] at hb; cases hb)
          exact (r.kill g).keep' (T := fun _ => True) hS (fun _ h => h) (fun g' k _ hg' => ⟨hsame _ (h.ok.hD g' k hg').2.1 (by rw [hVn]; simp), hg', rfl⟩) (fun _ _ => trivial)
        | some b =>
          have hlt : b < w'.heap.size := (hown'.lt b hv').2
          have hbb : w0.M b ∧ ¬ c.S b ∧ ∀ g' k', g' ≠ g → c.D g' k' → c.τ g' ≠ b := by
            rcases hblk with hq | hq
            · exact hVb b (by rw [← hq, hv'])
            · rw [hv'] at hq
              injection hq with hq
              subst hq
              exact ⟨h.below.mine (Nat.le_refl _), fun hS => by have := h.ok.hS _ hS; omega, fun g' k' _ hg' e => by have := (h.ok.hD g' k' hg').2.1; omega⟩
          refine does_mut (c' := c.at_ g b true) h hd (.inl (hexec _ _ hrun)) below (at_ok h.ok hgrow.size ⟨hbb.1, hlt, hbb.2.1⟩ hbb.2.2) (fun _ => Iff.rfl) rfl (fun pv v r => ?_)
            (rowf _ rfl fun b' hb' => ?_)
          · refine (r.kill g).keep' (c' := c.at_ g b true) (T := fun g' => g' ≠ g) hS (fun _ h => h) (fun g' k hne hg' => ⟨hsame _ (h.ok.hD g' k hg').2.1 fun e => (hVb _ e).2.2 g' k hne hg' rfl, ?_⟩) (fun g' hh e => ?_)
            · simp only [Ctx.at_, hne, if_false]; exact ⟨hg', trivial⟩
            · subst e; rw [has_kill] at hh; cases hh
          · rw [hv'] at hb'
            injection hb' with hb'
            subst hb'
            simp [Ctx.at_]
    | nl =>
      simp only at hr
      by_cases hlim : es2.length ≤ LIM
      case neg => rw [if_neg hlim] at hr; cases hr
      rw [if_pos hlim] at hr
      injection hr with hr
      subst hr
      have hVn : V = .slice none 0 0 := by
        cases rs with
        | free _ _ hf => cases hf; rfl
      subst hVn
      obtain ⟨v', w', hrun, hown', hgrow, hblk⟩ := run_append_any (P := P) 0 t o.type e i z (tSize P e) hu hi hz hsize hby hzs (by omega) (.slice none 0 0) 0 [] (World.ownsRow_nil w 0 e _) A es2.length cc news hnl hA' hcell h1 (by omega) (Nat.zero_le _)
      simp only [Nat.zero_add, List.nil_append] at hown'
      have hsame : ∀ b, b < w.heap.size → w'.heap[b]? = w.heap[b]? := fun b hb' => hgrow.block b hb' (by simp [Value.ownBlock])
      have below : Below w.heap.size w w' := ⟨hgrow.os, hgrow.tape, hgrow.output, hgrow.size, hsame⟩
      have hS : Same c.S w w' := fun b hS => hsame b (h.ok.hS b hS)
      have rowf : ∀ (c' : Ctx), c'.S = c.S → (∀ b, v'.ownBlock = some b → c'.D (o.dst.getD 0) true ∧ c'.τ (o.dst.getD 0) = b) → RV P w' c' (.own (o.dst.getD 0) e es2) v' := fun c' hSS hb' => by
        refine .own _ e _ v' news (by omega) hk2 hown' hb' (fun i j pv hg => ?_) (fun i j pv hg => ?_)
        · have hlt := getE_lt hk2 hg
          have := idx_lt hlt.1 hlt.2
          exact h1 _ (by rw [List.getD_eq_getElem?_getD, List.getElem?_eq_getElem (by omega)]; exact List.getElem_mem _)
        · rw [hSS]; exact (hrf i j pv hg).same hS fun _ h => h
      cases hv' : v'.ownBlock with
      | none =>
        exact does_new (c' := c) h hd (hexec _ _ hrun) below ⟨fun b hb => Nat.lt_of_lt_of_le (h.ok.hS b hb) hgrow.size, fun g k hg => ⟨(h.ok.hD g k hg).1, Nat.lt_of_lt_of_le (h.ok.hD g k hg).2.1 hgrow.size, (h.ok.hD g k hg).2.2⟩, h.ok.inj⟩ (fun _ => Iff.rfl)
          (fun g k _ hg => ⟨hg, rfl⟩) (fun _ => rowf c rfl fun b hb => by rw [hv'] at hb; cases hb)
      | some b =>
        have hlt : b < w'.heap.size := (hown'.lt b hv').2
        have hbe : b = w.heap.size := by
          rcases hblk with hq | hq
          · rw [hv'] at hq; simp [Value.ownBlock] at hq
          · rw [hv'] at hq; injection hq
        subst hbe
        refine does_new (c' := c.at_ (o.dst.getD 0) w.heap.size true) h hd (hexec _ _ hrun) below (at_ok h.ok hgrow.size ⟨h.below.mine (Nat.le_refl _), hlt, fun hS => by have := h.ok.hS _ hS; omega⟩ fun g' k' _ hg' e => by have := (h.ok.hD g' k' hg').2.1; omega) (fun _ => Iff.rfl)
          (fun g k hne hg => ?_) (fun _ => rowf _ rfl fun b' hb' => ?_)
        · simp only [Ctx.at_, hne, if_false]; exact ⟨hg, trivial⟩
        · rw [hv'] at hb'
          injection hb' with hb'
          subst hb'
          simp [Ctx.at_]
    | _ => simp at hr
end
end Go.VI
