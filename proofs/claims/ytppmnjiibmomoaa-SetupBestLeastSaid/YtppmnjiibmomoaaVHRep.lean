/- What an abstract value says of a value of the model in a world: the relation, and how it is kept. -/
import Derived.Test.YtppmnjiibmomoaaVHDefs
import Derived.Deep.AppendLies
set_option linter.unusedVariables false
set_option linter.unusedSimpArgs false
set_option linter.unusedSectionVars false
namespace Go.VI
open Go.RowKit

/-- the cell j of element i -/
def getE (es : List (List PV)) (i j : Nat) : Option PV := (es[i]?).bind (·[j]?)

theorem add_add (a : Addr) (i j : Nat) : (a.add i).add j = a.add (i + j) := by
  unfold Addr.add
  by_cases hi : i = 0 <;> by_cases hj : j = 0 <;> simp [hi, hj, Nat.add_assoc]
theorem add_block (a : Addr) (n : Nat) : (a.add n).block = a.block := by unfold Addr.add; split <;> rfl
theorem add_lit (b o n : Nat) : (⟨b, o, none⟩ : Addr).add n = ⟨b, o + n, none⟩ := by unfold Addr.add; split <;> simp_all

/-- The block b is a map with these entries. -/
def MapRep (w : World) (b : Nat) (m : List (Int × Int)) : Prop :=
  ∃ es clock, w.heap[b]? = some (.map es clock) ∧ es.toList.map (fun e => (e.key, e.val)) = m.map (fun p => (Value.int .i64 p.1, Value.int .i64 p.2)) ∧ (es.toList.map (·.born)).Nodup ∧ ∀ x ∈ es.toList, x.born < clock
theorem MapRep.same {w w' : World} {b : Nat} {m : List (Int × Int)} (h : MapRep w b m) (hb : w'.heap[b]? = w.heap[b]?) : MapRep w' b m := by
  obtain ⟨es, cl, h1, h2⟩ := h
  exact ⟨es, cl, hb.trans h1, h2⟩
/-- The block r is a range over a map that is read alone. -/
def IterRep (w : World) (S : Nat → Prop) (r : Nat) (left : List (Int × Int)) (cur : Option (Int × Int)) : Prop :=
  ∃ b es clock since seen c0, S b ∧ w.heap[b]? = some (.map es clock) ∧ (es.toList.map (·.born)).Nodup ∧ (∀ x ∈ es.toList, x.born < since) ∧ since ≤ c0 ∧ since ≤ clock ∧ w.heap[r]? = some (.mapIter (some b) since seen c0) ∧
    (es.toList.filter fun e => !seen.contains e.born).map (fun e => (e.key, e.val)) = left.map (fun p => (Value.int .i64 p.1, Value.int .i64 p.2)) ∧
    ∀ k v, cur = some (k, v) → ∃ e seen', e ∈ es.toList ∧ seen = Array.push seen' e.born ∧ c0 = clock ∧ e.key = .int .i64 k ∧ e.val = .int .i64 v
theorem IterRep.same {w w' : World} {S S' : Nat → Prop} {r : Nat} {left : List (Int × Int)} {cur : Option (Int × Int)} (h : IterRep w S r left cur) (hS : ∀ b, S b → w'.heap[b]? = w.heap[b]? ∧ S' b) (hr : w'.heap[r]? = w.heap[r]?) : IterRep w' S' r left cur := by
  obtain ⟨b, es, cl, since, seen, c0, h1, h2, h3, h4, h5, h6, h7, h8⟩ := h
  exact ⟨b, es, cl, since, seen, c0, (hS b h1).2, (hS b h1).1.trans h2, h3, h4, h5, h6, hr.trans h7, h8⟩
theorem MapRep.lt {w : World} {b : Nat} {m : List (Int × Int)} (h : MapRep w b m) : b < w.heap.size := by
  obtain ⟨es, cl, h1, _⟩ := h
  rcases Nat.lt_or_ge b w.heap.size with h | h
  · exact h
  · rw [Array.getElem?_eq_none h] at h1; cases h1

/-- What is free of keys: it leads to blocks of S alone, which no one writes. -/
inductive RF (w : World) (S : Nat → Prop) : PV → Value → Prop
  | undef (v : Value) : RF w S .undef v
  | lit (v : Value) : RF w S (.lit v) v
  | nl : RF w S .nl (.slice none 0 0)
  | fmap (m : List (Int × Int)) (b : Nat) (hb : S b) (hm : MapRep w b m) : RF w S (.fmap m) (.map (some b))
  | sl (es : List (List PV)) (k : Nat) (a : Option Addr) (n c : Nat) (vf : Nat → Nat → Value) (hn : n = es.length) (hk : ∀ e ∈ es, e.length = k) (hk0 : 0 < k) (hc : n ≤ c)
      (ha : es ≠ [] → ∃ ad, a = some ad ∧ S ad.block)
      (hcell : ∀ ad, a = some ad → ∀ i j pv, getE es i j = some pv → w.cell? (ad.add (i * k + j)) = some (vf i j))
      (h1 : ∀ i j pv, getE es i j = some pv → (vf i j).oneCell' = true)
      (hr : ∀ i j pv, getE es i j = some pv → RF w S pv (vf i j)) : RF w S (.sl es) (.slice a n c)
  | agg (cs : List PV) (vs : Array Value) (hn : vs.size = cs.length) (hr : ∀ i pv, cs[i]? = some pv → RF w S pv (vs.getD i Go.undef)) : RF w S (.agg cs) (.agg vs)
  | tup (cs : List PV) (vs : Array Value) (hn : vs.size = cs.length) (hr : ∀ i pv, cs[i]? = some pv → RF w S pv (vs.getD i Go.undef)) : RF w S (.tup cs) (.tuple vs)
  | vptr (cs : List PV) (off : Nat) (ad : Addr) (vf : Nat → Value) (hS : S ad.block)
      (hcell : ∀ i pv, cs[i]? = some pv → w.cell? (ad.add i) = some (vf i))
      (hr : ∀ i pv, cs[i]? = some pv → RF w S pv (vf i)) : RF w S (.vptr cs off) (.pointer (some (ad.add off)))
  | fn (f : Nat) (cs : List PV) (vs : Array Value) (hn : vs.size = cs.length) (hr : ∀ i pv, cs[i]? = some pv → RF w S pv (vs.getD i Go.undef)) : RF w S (.fn f cs) (.func (.func f) #[] vs)

/-- Which blocks are read alone; of each key: its block, its slice, its elements' type, whether its block is in use. -/
structure Ctx where
  S : Nat → Prop
  τ : Key → Nat
  hd : Key → Value
  ty : Key → TypeId
  D : Key → Prop

/-- What a slot may hold. -/
inductive RV (P : Program) (w : World) (c : Ctx) : PV → Value → Prop
  | free (pv : PV) (v : Value) (h : RF w c.S pv v) : RV P w c pv v
  | row (k : Key) (e : Nat) (he : c.ty k = e) (h1 : (c.hd k).oneCell' = true) : RV P w c (.row k e) (c.hd k)
  | part (k : Key) (e lo n : Nat) (A : Option Addr) (cc : Nat) (he : c.ty k = e) (hn : n ≤ cc) (hA : 0 < n → A = some ⟨c.τ k, lo * tSize P e, none⟩) : RV P w c (.part k e lo n) (.slice A n cc)
  | ptr (g off : Nat) : RV P w c (.ptr g off) (.pointer (some ⟨c.τ (.top g), off, none⟩))
  | rptr (k : Key) (e i off : Nat) (he : c.ty k = e) : RV P w c (.rptr k e i off) (.pointer (some ⟨c.τ k, i * tSize P e + off, none⟩))
  | mp (g : Nat) : RV P w c (.mp g) (.map (some (c.τ (.top g))))
  | agg (cs : List PV) (vs : Array Value) (hn : vs.size = cs.length) (hr : ∀ i pv, cs[i]? = some pv → RV P w c pv (vs.getD i Go.undef)) : RV P w c (.agg cs) (.agg vs)
  | tup (cs : List PV) (vs : Array Value) (hn : vs.size = cs.length) (hr : ∀ i pv, cs[i]? = some pv → RV P w c pv (vs.getD i Go.undef)) : RV P w c (.tup cs) (.tuple vs)
  | fn (f : Nat) (cs : List PV) (vs : Array Value) (hn : vs.size = cs.length) (hr : ∀ i pv, cs[i]? = some pv → RV P w c pv (vs.getD i Go.undef)) : RV P w c (.fn f cs) (.func (.func f) #[] vs)

/-- The row k has these elements; R: what is said of each cell. -/
structure RowRep (P : Program) (w : World) (c : Ctx) (k : Key) (e : Nat) (es : List (List PV)) (R : Nat → Nat → PV → Value → Prop) (xs : List Value) : Prop where
  ty : c.ty k = e
  pos : 0 < tSize P e
  len : ∀ l ∈ es, l.length = tSize P e
  own : w.ownsRow 0 e (tSize P e) (c.hd k) es.length xs
  blk : ∀ b, (c.hd k).ownBlock = some b → c.D k ∧ c.τ k = b
  one : ∀ i j pv, getE es i j = some pv → (xs.getD (i * tSize P e + j) undef).oneCell' = true
  rep : ∀ i j pv, getE es i j = some pv → R i j pv (xs.getD (i * tSize P e + j) undef)
theorem RowRep.hd_one {P : Program} {w : World} {c : Ctx} {k : Key} {e : Nat} {es : List (List PV)} {R : Nat → Nat → PV → Value → Prop} {xs : List Value} (r : RowRep P w c k e es R xs) : (c.hd k).oneCell' = true := by
  rcases r.own.2 with ⟨h0, _⟩ | ⟨g, cap, cur, h0, _⟩ <;> rw [h0] <;> rfl
/-- What is said of a cell of the row g. -/
def CellRep (P : Program) (w : World) (c : Ctx) (g : Nat) (J : List (Nat × Nat)) (i j : Nat) (pv : PV) (v : Value) : Prop := match Jat J j with
  | none => RF w c.S pv v
  | some e' => v = c.hd (.sub g i j) ∧ ∃ es' xs, pv = .sl es' ∧ RowRep P w c (.sub g i j) e' es' (fun _ _ pv v => RF w c.S pv v) xs
/-- The object g is so in the world. -/
def HRep (P : Program) (w : World) (c : Ctx) (g : Nat) : HO → Prop
  | .box cs => c.D (.top g) ∧ ∃ (vs : Array Value) (T : TypeId), w.heap[c.τ (.top g)]? = some (.cells vs T (0, 0)) ∧ vs.size = cs.length ∧ ∀ (i : Nat) pv, cs[i]? = some pv → RV P w c pv (vs.getD i undef)
  | .row e J es => ∃ xs, RowRep P w c (.top g) e es (CellRep P w c g J) xs
  | .map m => c.D (.top g) ∧ MapRep w (c.τ (.top g)) m
  | .it l u => c.D (.top g) ∧ IterRep w c.S (c.τ (.top g)) l u

/-- A context fits a world: B: the blocks that may be written. -/
structure Ctx.Ok (c : Ctx) (B : Nat → Prop) (w : World) : Prop where
  hS : ∀ b, c.S b → b < w.heap.size
  hD : ∀ k, c.D k → B (c.τ k) ∧ c.τ k < w.heap.size ∧ ¬ c.S (c.τ k)
  inj : ∀ k k', c.D k → c.D k' → c.τ k = c.τ k' → k = k'

/-! ### kept -/
/-- w' is w with more behind it -/
def Ext (w w' : World) : Prop := w.heap.size ≤ w'.heap.size ∧ ∀ b, b < w.heap.size → w'.heap[b]? = w.heap[b]?
theorem Ext.refl (w : World) : Ext w w := ⟨Nat.le_refl _, fun _ _ => rfl⟩
theorem Ext.trans {a b c : World} (h : Ext a b) (k : Ext b c) : Ext a c := ⟨Nat.le_trans h.1 k.1, fun i hi => (k.2 i (Nat.lt_of_lt_of_le hi h.1)).trans (h.2 i hi)⟩
theorem Ext.alloc (w : World) (o : Obj) : Ext w (w.alloc o) := ⟨by simp, fun b hb => Below.heap_alloc w o b hb⟩
theorem Ext.drew (w : World) : Ext w w.drew := ⟨Nat.le_refl _, fun _ _ => rfl⟩
theorem Ext.below {w w' : World} (h : Below w.heap.size w w') : Ext w w' := ⟨h.size, fun b hb => h.block b hb⟩
theorem Ext.cell {w w' : World} (h : Ext w w') {a : Addr} {v : Value} (hc : w.cell? a = some v) : w'.cell? a = some v :=
  (World.cell?_of_block (h.2 _ (World.block_lt_of_cell? w a hc))).trans hc

/-- Two worlds that read alike at the blocks of S. -/
def Same (S : Nat → Prop) (w w' : World) : Prop := ∀ b, S b → w'.heap[b]? = w.heap[b]?
theorem RF.same {w w' : World} {S S' : Nat → Prop} (h : Same S w w') (hS : ∀ b, S b → S' b) {pv : PV} {v : Value} (r : RF w S pv v) : RF w' S' pv v := by
  induction r with
  | undef v => exact .undef v
  | lit v => exact .lit v
  | nl => exact .nl
  | fmap m b hb hm => exact .fmap m b (hS _ hb) (hm.same (h _ hb))
  | sl es k a n c vf hn hk hk0 hc ha hcell h1 hr ih =>
    refine .sl es k a n c vf hn hk hk0 hc (fun hne => ?_) (fun ad had i j pv hg => ?_) h1 ih
    · obtain ⟨ad, h1, h2⟩ := ha hne
      exact ⟨ad, h1, hS _ h2⟩
    · have hne : es ≠ [] := by rintro rfl; simp [getE] at hg
      obtain ⟨ad', h1, h2⟩ := ha hne
      obtain rfl : ad' = ad := by rw [h1] at had; injection had
      exact (World.cell?_of_block (by rw [add_block]; exact h _ h2)).trans (hcell _ had i j pv hg)
  | agg cs vs hn hr ih => exact .agg cs vs hn ih
  | tup cs vs hn hr ih => exact .tup cs vs hn ih
  | vptr cs off ad vf hS' hcell hr ih =>
    exact .vptr cs off ad vf (hS _ hS') (fun i pv hg => (World.cell?_of_block (by rw [add_block]; exact h _ hS')).trans (hcell i pv hg)) ih
  | fn f cs vs hn hr ih => exact .fn f cs vs hn ih

theorem ownsRow_same {w w' : World} {base e size n : Nat} {v : Value} {xs : List Value} (h : w.ownsRow base e size v n xs) (hb : ∀ b, v.ownBlock = some b → w'.heap[b]? = w.heap[b]?) :
    w'.ownsRow base e size v n xs := by
  refine ⟨h.1, ?_⟩
  rcases h.2 with hn | ⟨g, cap, cur, rfl, hbb, hgg, rest⟩
  · exact .inl hn
  · exact .inr ⟨g, cap, cur, rfl, hbb, (hb g rfl).trans hgg, rest⟩


/-- Two contexts agree on the key k. -/
def Agree (c c' : Ctx) (k : Key) : Prop := c'.τ k = c.τ k ∧ c'.hd k = c.hd k ∧ c'.ty k = c.ty k
theorem Agree.refl (c : Ctx) (k : Key) : Agree c c k := ⟨rfl, rfl, rfl⟩

theorem hasL_of {p : Key → Bool} {cs : List PV} {i : Nat} {pv : PV} (h : cs[i]? = some pv) (hh : PV.hasL p cs = false) : pv.has p = false := by
  induction cs generalizing i with
  | nil => simp at h
  | cons c cs ih =>
    simp only [PV.hasL, Bool.or_eq_false_iff] at hh
    cases i with
    | zero => simp at h; subst h; exact hh.1
    | succ i => exact ih (by simpa using h) hh.2
theorem freeL_of {cs : List PV} (h : ∀ (i : Nat) pv, cs[i]? = some pv → pv.free = true) : PV.freeL cs = true := by
  induction cs with
  | nil => rfl
  | cons c cs ih => simp only [PV.freeL, h 0 c (by simp), ih (fun i pv hi => h (i+1) pv (by simpa using hi)), Bool.and_self]

/-- What a slot holds is kept where the blocks that it names are. -/
theorem RV.keep {P : Program} {w w' : World} {c c' : Ctx} {p : Key → Bool} (hS : Same c.S w w') (hSS : ∀ b, c.S b → c'.S b) (hag : ∀ k, p k = false → Agree c c' k) {pv : PV} {v : Value} (r : RV P w c pv v) : pv.has p = false → RV P w' c' pv v := by
  induction r with
  | free pv v h => intro _; exact .free pv v (h.same hS hSS)
  | row k e he h1 => intro hp; obtain ⟨_, h2, h3⟩ := hag k (by rwa [PV.has] at hp); rw [← h2] at h1 ⊢; exact .row k e (h3.trans he) h1
  | part k e lo n A cc he hn hA => intro hp; obtain ⟨h1, h2, h3⟩ := hag k (by rwa [PV.has] at hp); exact .part k e lo n A cc (h3.trans he) hn (fun h => by rw [h1]; exact hA h)
  | ptr g off => intro hp; obtain ⟨h1, _⟩ := hag (.top g) (by rwa [PV.has] at hp); rw [← h1]; exact .ptr g off
  | rptr k e i off he => intro hp; obtain ⟨h1, h2, h3⟩ := hag k (by rwa [PV.has] at hp); rw [← h1]; exact .rptr k e i off (h3.trans he)
  | mp g => intro hp; obtain ⟨h1, _⟩ := hag (.top g) (by rwa [PV.has] at hp); rw [← h1]; exact .mp g
  | agg cs vs hn hr ih => intro hp; rw [PV.has] at hp; exact .agg cs vs hn fun i pv hg => ih i pv hg (hasL_of hg hp)
  | tup cs vs hn hr ih => intro hp; rw [PV.has] at hp; exact .tup cs vs hn fun i pv hg => ih i pv hg (hasL_of hg hp)
  | fn f cs vs hn hr ih => intro hp; rw [PV.has] at hp; exact .fn f cs vs hn fun i pv hg => ih i pv hg (hasL_of hg hp)

theorem RowRep.keep {P : Program} {w w' : World} {c c' : Ctx} {k : Key} {e : Nat} {es : List (List PV)} {R R' : Nat → Nat → PV → Value → Prop} {xs : List Value} (hag : Agree c c' k) (hD : c.D k → w'.heap[c.τ k]? = w.heap[c.τ k]? ∧ c'.D k)
    (hR : ∀ i j pv v, R i j pv v → R' i j pv v) (r : RowRep P w c k e es R xs) : RowRep P w' c' k e es R' xs := by
  obtain ⟨h1, h2, h3⟩ := hag
  refine ⟨h3.trans r.ty, r.pos, r.len, ?_, fun b hb => ?_, r.one, fun i j pv hg => hR _ _ _ _ (r.rep i j pv hg)⟩
  · rw [h2]
    exact ownsRow_same r.own fun b hb => by obtain ⟨q1, rfl⟩ := r.blk b hb; exact (hD q1).1
  · rw [h2] at hb
    obtain ⟨q1, q2⟩ := r.blk b hb
    exact ⟨(hD q1).2, h1.trans q2⟩
theorem CellRep.keep {P : Program} {w w' : World} {c c' : Ctx} {g : Nat} {J : List (Nat × Nat)} (hS : Same c.S w w') (hSS : ∀ b, c.S b → c'.S b) (hag : ∀ k, k.tag = g → Agree c c' k) (hD : ∀ k, k.tag = g → c.D k → w'.heap[c.τ k]? = w.heap[c.τ k]? ∧ c'.D k)
    (i j : Nat) (pv : PV) (v : Value) (h : CellRep P w c g J i j pv v) : CellRep P w' c' g J i j pv v := by
  unfold CellRep at h ⊢
  split at h
  · exact h.same hS hSS
  · obtain ⟨h1, es', xs, h2, h3⟩ := h
    refine ⟨h1.trans (hag (.sub g i j) rfl).2.1.symm, es', xs, h2, h3.keep (hag _ rfl) (hD _ rfl) fun _ _ _ _ r => r.same hS hSS⟩

mutual
theorem has_free (p : Key → Bool) : ∀ (v : PV), v.free = true → v.has p = false
  | .undef, _ => rfl
  | .lit _, _ => rfl
  | .nl, _ => rfl
  | .sl _, _ => rfl
  | .fmap _, _ => rfl
  | .vptr _ _, _ => rfl
  | .agg cs, h => by rw [PV.has]; exact hasL_free p cs (by rwa [PV.free] at h)
  | .tup cs, h => by rw [PV.has]; exact hasL_free p cs (by rwa [PV.free] at h)
  | .fn _ cs, h => by rw [PV.has]; exact hasL_free p cs (by rwa [PV.free] at h)
  | .row _ _, h => by simp [PV.free] at h
  | .part _ _ _ _, h => by simp [PV.free] at h
  | .ptr _ _, h => by simp [PV.free] at h
  | .rptr _ _ _ _, h => by simp [PV.free] at h
  | .mp _, h => by simp [PV.free] at h
theorem hasL_free (p : Key → Bool) : ∀ (l : List PV), PV.freeL l = true → PV.hasL p l = false
  | [], _ => rfl
  | c :: cs, h => by
    simp only [PV.freeL, Bool.and_eq_true] at h
    simp [PV.hasL, has_free p c h.1, hasL_free p cs h.2]
end
mutual
theorem kill_free (p : Key → Bool) : ∀ (v : PV), v.has p = false → v.kill p = v
  | .undef, _ => rfl
  | .lit _, _ => rfl
  | .nl, _ => rfl
  | .sl _, _ => rfl
  | .fmap _, _ => rfl
  | .vptr _ _, _ => rfl
  | .agg cs, h => by rw [PV.kill, killL_free p cs (by rwa [PV.has] at h)]
  | .tup cs, h => by rw [PV.kill, killL_free p cs (by rwa [PV.has] at h)]
  | .fn _ cs, h => by rw [PV.kill, killL_free p cs (by rwa [PV.has] at h)]
  | .row _ _, h => by simp [PV.has] at h; simp [PV.kill, h]
  | .part _ _ _ _, h => by simp [PV.has] at h; simp [PV.kill, h]
  | .ptr _ _, h => by simp [PV.has] at h; simp [PV.kill, h]
  | .rptr _ _ _ _, h => by simp [PV.has] at h; simp [PV.kill, h]
  | .mp _, h => by simp [PV.has] at h; simp [PV.kill, h]
theorem killL_free (p : Key → Bool) : ∀ (l : List PV), PV.hasL p l = false → PV.killL p l = l
  | [], _ => rfl
  | c :: cs, h => by
    simp only [PV.hasL, Bool.or_eq_false_iff] at h
    simp [PV.killL, kill_free p c h.1, killL_free p cs h.2]
end
mutual
/-- Behind 'kill' the keys are gone. -/
theorem has_kill (p : Key → Bool) : ∀ (v : PV), (v.kill p).has p = false
  | .undef => rfl
  | .lit _ => rfl
  | .nl => rfl
  | .sl _ => rfl
  | .fmap _ => rfl
  | .vptr _ _ => rfl
  | .agg cs => by rw [PV.kill, PV.has]; exact hasL_killL p cs
  | .tup cs => by rw [PV.kill, PV.has]; exact hasL_killL p cs
  | .fn _ cs => by rw [PV.kill, PV.has]; exact hasL_killL p cs
  | .row k _ => by by_cases h : p k = true <;> simp [PV.kill, h, PV.has]
  | .part k _ _ _ => by by_cases h : p k = true <;> simp [PV.kill, h, PV.has]
  | .rptr k _ _ _ => by by_cases h : p k = true <;> simp [PV.kill, h, PV.has]
  | .ptr g _ => by by_cases h : p (.top g) = true <;> simp [PV.kill, h, PV.has]
  | .mp g => by by_cases h : p (.top g) = true <;> simp [PV.kill, h, PV.has]
theorem hasL_killL (p : Key → Bool) : ∀ (l : List PV), PV.hasL p (PV.killL p l) = false
  | [] => rfl
  | c :: cs => by simp [PV.killL, PV.hasL, has_kill p c, hasL_killL p cs]
end
theorem killL_get (p : Key → Bool) (l : List PV) (i : Nat) : (PV.killL p l)[i]? = (l[i]?).map (PV.kill p) := by
  induction l generalizing i with
  | nil => simp [PV.killL]
  | cons c cs ih => cases i <;> simp [PV.killL, ih]
theorem killL_length (p : Key → Bool) (l : List PV) : (PV.killL p l).length = l.length := by
  induction l <;> simp_all [PV.killL]

theorem RF.free {w : World} {S : Nat → Prop} {pv : PV} {v : Value} (r : RF w S pv v) : pv.free = true := by
  induction r with
  | agg cs vs hn hr ih => rw [PV.free]; exact freeL_of ih
  | tup cs vs hn hr ih => rw [PV.free]; exact freeL_of ih
  | fn f cs vs hn hr ih => rw [PV.free]; exact freeL_of ih
  | _ => simp [PV.free]
/-- 'kill' says less. -/
theorem RV.kill {P : Program} {w : World} {c : Ctx} (p : Key → Bool) {pv : PV} {v : Value} (r : RV P w c pv v) : RV P w c (pv.kill p) v := by
  have lst : ∀ {cs : List PV} {vs : Array Value}, (∀ (i : Nat) pv, cs[i]? = some pv → RV P w c (pv.kill p) (vs.getD i Go.undef)) → ∀ (i : Nat) pv, (PV.killL p cs)[i]? = some pv → RV P w c pv (vs.getD i Go.undef) := by
    intro cs vs ih i pv hg
    rw [killL_get] at hg
    cases hc : cs[i]? <;> simp [hc] at hg
    subst hg; exact ih i _ hc
  induction r with
  | free pv v h => rw [kill_free p pv (has_free p pv h.free)]; exact .free pv v h
  | row k e he h1 => rw [PV.kill]; split; exact .free _ _ (.undef _); exact .row k e he h1
  | part k e lo n A cc he hn hA => rw [PV.kill]; split; exact .free _ _ (.undef _); exact .part k e lo n A cc he hn hA
  | ptr g off => rw [PV.kill]; split; exact .free _ _ (.undef _); exact .ptr g off
  | rptr k e i off he => rw [PV.kill]; split; exact .free _ _ (.undef _); exact .rptr k e i off he
  | mp g => rw [PV.kill]; split; exact .free _ _ (.undef _); exact .mp g
  | agg cs vs hn hr ih => rw [PV.kill]; exact .agg _ vs (by rw [killL_length, hn]) (lst ih)
  | tup cs vs hn hr ih => rw [PV.kill]; exact .tup _ vs (by rw [killL_length, hn]) (lst ih)
  | fn f cs vs hn hr ih => rw [PV.kill]; exact .fn f _ vs (by rw [killL_length, hn]) (lst ih)
/-- forgotten, and kept -/
theorem RV.keepKill {P : Program} {w w' : World} {c c' : Ctx} {p : Key → Bool} (hS : Same c.S w w') (hSS : ∀ b, c.S b → c'.S b) (hag : ∀ k, p k = false → Agree c c' k) {pv : PV} {v : Value} (r : RV P w c pv v) : RV P w' c' (pv.kill p) v :=
  (r.kill p).keep hS hSS hag (has_kill p pv)
theorem HRep.keepKill {P : Program} {w w' : World} {c c' : Ctx} {p : Key → Bool} {g : Nat} {o : HO} (hS : Same c.S w w') (hSS : ∀ b, c.S b → c'.S b) (hag : ∀ k, p k = false → Agree c c' k) (hg : ∀ k : Key, k.tag = g → p k = false)
    (hD : ∀ k : Key, k.tag = g → c.D k → w'.heap[c.τ k]? = w.heap[c.τ k]? ∧ c'.D k) (r : HRep P w c g o) : HRep P w' c' g (o.kill p) := by
  cases o with
  | box cs =>
    obtain ⟨h1, vs, T, h2, h3, h4⟩ := r
    obtain ⟨q1, q2⟩ := hD (.top g) rfl h1
    refine ⟨q2, vs, T, by rw [(hag _ (hg (.top g) rfl)).1, q1]; exact h2, by rw [killL_length, h3], fun i pv hgt => ?_⟩
    rw [killL_get] at hgt
    cases hc : cs[i]? <;> simp [hc] at hgt
    subst hgt
    exact (h4 i _ hc).keepKill hS hSS hag
  | row e J es =>
    obtain ⟨xs, r⟩ := r
    exact ⟨xs, r.keep (hag _ (hg (.top g) rfl)) (hD _ rfl) fun i j pv v => CellRep.keep hS hSS (fun k hk => hag k (hg k hk)) hD i j pv v⟩
  | map m =>
    obtain ⟨h1, h2⟩ := r
    obtain ⟨q1, q2⟩ := hD (.top g) rfl h1
    exact ⟨q2, by rw [(hag _ (hg (.top g) rfl)).1]; exact h2.same q1⟩
  | it l u =>
    obtain ⟨h1, h2⟩ := r
    obtain ⟨q1, q2⟩ := hD (.top g) rfl h1
    exact ⟨q2, by rw [(hag _ (hg (.top g) rfl)).1]; exact h2.same (fun b hb => ⟨hS b hb, hSS b hb⟩) q1⟩
/-- nothing forgotten -/
def noKey : Key → Bool := fun _ => false
mutual
theorem has_no : ∀ v : PV, v.has noKey = false
  | .undef => rfl
  | .lit _ => rfl
  | .nl => rfl
  | .sl _ => rfl
  | .fmap _ => rfl
  | .vptr _ _ => rfl
  | .agg cs => by rw [PV.has]; exact hasL_no cs
  | .tup cs => by rw [PV.has]; exact hasL_no cs
  | .fn _ cs => by rw [PV.has]; exact hasL_no cs
  | .row _ _ => rfl
  | .part _ _ _ _ => rfl
  | .rptr _ _ _ _ => rfl
  | .ptr _ _ => rfl
  | .mp _ => rfl
theorem hasL_no : ∀ l : List PV, PV.hasL noKey l = false
  | [] => rfl
  | c :: cs => by simp [PV.hasL, has_no c, hasL_no cs]
end
theorem RV.keepAll {P : Program} {w w' : World} {c c' : Ctx} (hS : Same c.S w w') (hSS : ∀ b, c.S b → c'.S b) (hag : ∀ k, Agree c c' k) {pv : PV} {v : Value} (r : RV P w c pv v) : RV P w' c' pv v :=
  r.keep (p := noKey) hS hSS (fun k _ => hag k) (has_no pv)
theorem kill_no (o : HO) : o.kill noKey = o := by
  cases o with
  | box cs => simp only [HO.kill]; rw [killL_free noKey cs (hasL_no cs)]
  | _ => rfl
theorem HRep.keepAll {P : Program} {w w' : World} {c c' : Ctx} {g : Nat} {o : HO} (hS : Same c.S w w') (hSS : ∀ b, c.S b → c'.S b) (hag : ∀ k, Agree c c' k) (hD : ∀ k : Key, k.tag = g → c.D k → w'.heap[c.τ k]? = w.heap[c.τ k]? ∧ c'.D k) (r : HRep P w c g o) : HRep P w' c' g o := by
  have := r.keepKill (p := noKey) hS hSS (fun k _ => hag k) (fun _ _ => rfl) hD
  rwa [kill_no] at this
end Go.VI
