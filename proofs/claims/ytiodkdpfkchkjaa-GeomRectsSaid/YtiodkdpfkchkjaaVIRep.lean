/- What an abstract value says of a value of the model in a world: the relation, and how it is kept. -/
import Derived.Test.YtiodkdpfkchkjaaVIDefs
import Derived.Deep.AppendLies
set_option linter.unusedVariables false
set_option linter.unusedSimpArgs false
set_option linter.unusedSectionVars false
namespace Go.VI
open Go.RowKit

/-- the cell j of element i -/
def getE (es : List (List PV)) (i j : Nat) : Option PV := (es[i]?).bind (·[j]?)

theorem add_add (a : Addr) (i j : Nat) : (a.add i).add j = a.add (i + j) := by
  unfold Addr.add
  by_cases hi : i = 0 <;> by_cases hj : j = 0 <;> simp [hi, hj, Nat.add_assoc]
theorem add_block (a : Addr) (n : Nat) : (a.add n).block = a.block := by unfold Addr.add; split <;> rfl
theorem add_lit (b o n : Nat) : (⟨b, o, none⟩ : Addr).add n = ⟨b, o + n, none⟩ := by unfold Addr.add; split <;> simp_all

/-- What is free of tags: it leads to blocks of S alone, which no one writes. -/
inductive RF (w : World) (S : Nat → Prop) : PV → Value → Prop
  | undef (v : Value) : RF w S .undef v
  | lit (v : Value) : RF w S (.lit v) v
  | nl : RF w S .nl (.slice none 0 0)
  | sl (es : List (List PV)) (k : Nat) (a : Option Addr) (n c : Nat) (vf : Nat → Nat → Value) (hn : n = es.length) (hk : ∀ e ∈ es, e.length = k) (hk0 : 0 < k) (hc : n ≤ c)
      (ha : es ≠ [] → ∃ ad, a = some ad ∧ S ad.block)
      (hcell : ∀ ad, a = some ad → ∀ i j pv, getE es i j = some pv → w.cell? (ad.add (i * k + j)) = some (vf i j))
      (h1 : ∀ i j pv, getE es i j = some pv → (vf i j).oneCell' = true)
      (hr : ∀ i j pv, getE es i j = some pv → RF w S pv (vf i j)) : RF w S (.sl es) (.slice a n c)
  | agg (cs : List PV) (vs : Array Value) (hn : vs.size = cs.length) (hr : ∀ i pv, cs[i]? = some pv → RF w S pv (vs.getD i undef)) : RF w S (.agg cs) (.agg vs)
  | tup (cs : List PV) (vs : Array Value) (hn : vs.size = cs.length) (hr : ∀ i pv, cs[i]? = some pv → RF w S pv (vs.getD i undef)) : RF w S (.tup cs) (.tuple vs)
  | vptr (cs : List PV) (off : Nat) (ad : Addr) (vf : Nat → Value) (hS : S ad.block)
      (hcell : ∀ i pv, cs[i]? = some pv → w.cell? (ad.add i) = some (vf i))
      (hr : ∀ i pv, cs[i]? = some pv → RF w S pv (vf i)) : RF w S (.vptr cs off) (.pointer (some (ad.add off)))
  | fn (f : Nat) (cs : List PV) (vs : Array Value) (hn : vs.size = cs.length) (hr : ∀ i pv, cs[i]? = some pv → RF w S pv (vs.getD i undef)) : RF w S (.fn f cs) (.func (.func f) #[] vs)

/-- Which blocks are read alone, where a tag's block is, which tags are in use: as boxes (false), as rows (true). -/
structure Ctx where
  S : Nat → Prop
  τ : Nat → Nat
  D : Nat → Bool → Prop

/-- What a slot may hold. -/
inductive RV (P : Program) (w : World) (c : Ctx) : PV → Value → Prop
  | free (pv : PV) (v : Value) (h : RF w c.S pv v) : RV P w c pv v
  | own (g e : Nat) (es : List (List PV)) (v : Value) (xs : List Value) (hk0 : 0 < tSize P e) (hk : ∀ l ∈ es, l.length = tSize P e)
      (ho : w.ownsRow 0 e (tSize P e) v es.length xs) (hb : ∀ b, v.ownBlock = some b → c.D g true ∧ c.τ g = b)
      (h1 : ∀ i j pv, getE es i j = some pv → (xs.getD (i * tSize P e + j) undef).oneCell' = true)
      (hr : ∀ i j pv, getE es i j = some pv → RF w c.S pv (xs.getD (i * tSize P e + j) undef)) : RV P w c (.own g e es) v
  | optr (g e : Nat) (es : List (List PV)) (i off : Nat) (xs : List Value) (cap : Nat) (hk0 : 0 < tSize P e) (hk : ∀ l ∈ es, l.length = tSize P e)
      (ho : w.ownsRow 0 e (tSize P e) (.slice (some ⟨c.τ g, 0, none⟩) es.length cap) es.length xs) (hb : c.D g true)
      (h1 : ∀ i j pv, getE es i j = some pv → (xs.getD (i * tSize P e + j) undef).oneCell' = true)
      (hr : ∀ i j pv, getE es i j = some pv → RF w c.S pv (xs.getD (i * tSize P e + j) undef)) : RV P w c (.optr g e es i off) (.pointer (some ⟨c.τ g, i * tSize P e + off, none⟩))
  | agg (cs : List PV) (vs : Array Value) (hn : vs.size = cs.length) (hr : ∀ i pv, cs[i]? = some pv → RV P w c pv (vs.getD i Go.undef)) : RV P w c (.agg cs) (.agg vs)
  | tup (cs : List PV) (vs : Array Value) (hn : vs.size = cs.length) (hr : ∀ i pv, cs[i]? = some pv → RV P w c pv (vs.getD i Go.undef)) : RV P w c (.tup cs) (.tuple vs)
  | ptr (g : Nat) (cs : List PV) (off : Nat) (vs : Array Value) (T : TypeId) (hb : c.D g false) (hh : w.heap[c.τ g]? = some (.cells vs T (0, 0))) (hn : vs.size = cs.length)
      (hr : ∀ i pv, cs[i]? = some pv → RV P w c pv (vs.getD i Go.undef)) : RV P w c (.ptr g cs off) (.pointer (some ⟨c.τ g, off, none⟩))
  | fn (f : Nat) (cs : List PV) (vs : Array Value) (hn : vs.size = cs.length) (hr : ∀ i pv, cs[i]? = some pv → RV P w c pv (vs.getD i Go.undef)) : RV P w c (.fn f cs) (.func (.func f) #[] vs)

/-- A context fits a world: B: the heap's size when the call began. -/
structure Ctx.Ok (c : Ctx) (B : Nat → Prop) (w : World) : Prop where
  hS : ∀ b, c.S b → b < w.heap.size
  hD : ∀ g k, c.D g k → B (c.τ g) ∧ c.τ g < w.heap.size ∧ ¬ c.S (c.τ g)
  inj : ∀ g k g' k', c.D g k → c.D g' k' → c.τ g = c.τ g' → g = g' ∧ k = k'

/-! ### kept -/
/-- w' is w with more behind it -/
def Ext (w w' : World) : Prop := w.heap.size ≤ w'.heap.size ∧ ∀ b, b < w.heap.size → w'.heap[b]? = w.heap[b]?
theorem Ext.refl (w : World) : Ext w w := ⟨Nat.le_refl _, fun _ _ => rfl⟩
theorem Ext.trans {a b c : World} (h : Ext a b) (k : Ext b c) : Ext a c := ⟨Nat.le_trans h.1 k.1, fun i hi => (k.2 i (Nat.lt_of_lt_of_le hi h.1)).trans (h.2 i hi)⟩
theorem Ext.alloc (w : World) (o : Obj) : Ext w (w.alloc o) := ⟨by simp, fun b hb => Below.heap_alloc w o b hb⟩
theorem Ext.drew (w : World) : Ext w w.drew := ⟨Nat.le_refl _, fun _ _ => rfl⟩
theorem Ext.below {w w' : World} (h : Below w.heap.size w w') : Ext w w' := ⟨h.size, fun b hb => h.block b hb⟩
theorem Ext.cell {w w' : World} (h : Ext w w') {a : Addr} {v : Value} (hc : w.cell? a = some v) : w'.cell? a = some v :=
  (World.cell?_of_block (h.2 _ (World.block_lt_of_cell? w a hc))).trans hc

/-- Two worlds that read alike at the blocks of S. -/
def Same (S : Nat → Prop) (w w' : World) : Prop := ∀ b, S b → w'.heap[b]? = w.heap[b]?
theorem RF.same {w w' : World} {S S' : Nat → Prop} (h : Same S w w') (hS : ∀ b, S b → S' b) {pv : PV} {v : Value} (r : RF w S pv v) : RF w' S' pv v := by
  induction r with
  | undef v => exact .undef v
  | lit v => exact .lit v
  | nl => exact .nl
  | sl es k a n c vf hn hk hk0 hc ha hcell h1 hr ih =>
    refine .sl es k a n c vf hn hk hk0 hc (fun hne => ?_) (fun ad had i j pv hg => ?_) h1 ih
    · obtain ⟨ad, h1, h2⟩ := ha hne
      exact ⟨ad, h1, hS _ h2⟩
    · have hne : es ≠ [] := by rintro rfl; simp [getE] at hg
      obtain ⟨ad', h1, h2⟩ := ha hne
      obtain rfl : ad' = ad := by rw [h1] at had; injection had
      exact (World.cell?_of_block (by rw [add_block]; exact h _ h2)).trans (hcell _ had i j pv hg)
  | agg cs vs hn hr ih => exact .agg cs vs hn ih
  | tup cs vs hn hr ih => exact .tup cs vs hn ih
  | vptr cs off ad vf hS' hcell hr ih =>
    exact .vptr cs off ad vf (hS _ hS') (fun i pv hg => (World.cell?_of_block (by rw [add_block]; exact h _ hS')).trans (hcell i pv hg)) ih
  | fn f cs vs hn hr ih => exact .fn f cs vs hn ih

theorem ownsRow_same {w w' : World} {base e size n : Nat} {v : Value} {xs : List Value} (h : w.ownsRow base e size v n xs) (hb : ∀ b, v.ownBlock = some b → w'.heap[b]? = w.heap[b]?) :
    w'.ownsRow base e size v n xs := by
  refine ⟨h.1, ?_⟩
  rcases h.2 with hn | ⟨g, cap, cur, rfl, hbb, hgg, rest⟩
  · exact .inl hn
  · exact .inr ⟨g, cap, cur, rfl, hbb, (hb g rfl).trans hgg, rest⟩

theorem hasL_of {g : Nat} {cs : List PV} {i : Nat} {pv : PV} (h : cs[i]? = some pv) (hh : pv.has g = true) : PV.hasL g cs = true := by
  induction cs generalizing i with
  | nil => simp at h
  | cons c cs ih =>
    cases i with
    | zero => simp at h; subst h; simp [PV.hasL, hh]
    | succ i => simp at h; simp [PV.hasL, ih h]
theorem freeL_of {cs : List PV} (h : ∀ (i : Nat) pv, cs[i]? = some pv → pv.free = true) : PV.freeL cs = true := by
  induction cs with
  | nil => rfl
  | cons c cs ih => simp only [PV.freeL, h 0 c (by simp), ih (fun i pv hi => h (i+1) pv (by simpa using hi)), Bool.and_self]

/-- What a slot holds is kept where the blocks that it names are. -/
theorem RV.keep' {P : Program} {w w' : World} {c c' : Ctx} {T : Nat → Prop} (hS : Same c.S w w') (hSS : ∀ b, c.S b → c'.S b)
    (hD : ∀ g k, T g → c.D g k → w'.heap[c.τ g]? = w.heap[c.τ g]? ∧ c'.D g k ∧ c'.τ g = c.τ g) {pv : PV} {v : Value} (r : RV P w c pv v) : (∀ g, pv.has g = true → T g) → RV P w' c' pv v := by
  induction r with
  | free pv v h => intro _; exact .free pv v (h.same hS hSS)
  | own g e es v xs hk0 hk ho hb h1 hr =>
    intro ht
    refine .own g e es v xs hk0 hk (ownsRow_same ho fun b hb' => ?_) (fun b hb' => ?_) h1 (fun i j pv hg => (hr i j pv hg).same hS hSS)
    · obtain ⟨h1, rfl⟩ := hb b hb'
      exact (hD g true (ht g (by simp [PV.has])) h1).1
    · obtain ⟨h1, h2⟩ := hb b hb'
      obtain ⟨_, h3, h4⟩ := hD g true (ht g (by simp [PV.has])) h1
      exact ⟨h3, by rw [h4, h2]⟩
  | optr g e es i off xs cap hk0 hk ho hb h1 hr =>
    intro ht
    obtain ⟨h2, h3, h4⟩ := hD g true (ht g (by simp [PV.has])) hb
    rw [← h4]
    refine .optr g e es i off xs cap hk0 hk ?_ h3 h1 (fun i j pv hg => (hr i j pv hg).same hS hSS)
    rw [h4]
    exact ownsRow_same ho fun b hb' => by simp [Value.ownBlock] at hb'; subst hb'; exact h2
  | agg cs vs hn hr ih => intro ht; exact .agg cs vs hn fun i pv hg => ih i pv hg fun g hh => ht g (by rw [PV.has]; exact hasL_of hg hh)
  | tup cs vs hn hr ih => intro ht; exact .tup cs vs hn fun i pv hg => ih i pv hg fun g hh => ht g (by rw [PV.has]; exact hasL_of hg hh)
  | ptr g cs off vs T hb hh hn hr ih =>
    intro ht
    obtain ⟨h2, h3, h4⟩ := hD g false (ht g (by simp [PV.has])) hb
    rw [← h4]
    exact .ptr g cs off vs T h3 (by rw [h4, h2]; exact hh) hn fun i pv hg => ih i pv hg fun g hh => ht g (by rw [PV.has, hasL_of hg hh]; simp)
  | fn f cs vs hn hr ih => intro ht; exact .fn f cs vs hn fun i pv hg => ih i pv hg fun g hh => ht g (by rw [PV.has]; exact hasL_of hg hh)

/-- The tags in use stay. -/
def Ctx.sub (c c' : Ctx) : Prop := (∀ b, c.S b → c'.S b) ∧ ∀ g k, c.D g k → c'.D g k ∧ c'.τ g = c.τ g
theorem Ctx.sub_refl (c : Ctx) : c.sub c := ⟨fun _ h => h, fun _ _ h => ⟨h, rfl⟩⟩
theorem RV.ext {P : Program} {B : Nat → Prop} {w w' : World} {c c' : Ctx} (hok : c.Ok B w) (he : Ext w w') (hc : c.sub c') {pv : PV} {v : Value} (r : RV P w c pv v) : RV P w' c' pv v :=
  r.keep' (T := fun _ => True) (fun b hb => he.2 b (hok.hS b hb)) hc.1 (fun g k _ hg => ⟨he.2 _ (hok.hD g k hg).2.1, hc.2 g k hg⟩) (fun _ _ => trivial)

/-! ### the tags of what is free -/
theorem RF.free {w : World} {S : Nat → Prop} {pv : PV} {v : Value} (r : RF w S pv v) : pv.free = true := by
  induction r with
  | agg cs vs hn hr ih => rw [PV.free]; exact freeL_of ih
  | tup cs vs hn hr ih => rw [PV.free]; exact freeL_of ih
  | fn f cs vs hn hr ih => rw [PV.free]; exact freeL_of ih
  | _ => simp [PV.free]

mutual
theorem has_free (g : Nat) : ∀ (p : PV), p.free = true → p.has g = false
  | .undef, _ => rfl
  | .lit _, _ => rfl
  | .nl, _ => rfl
  | .sl _, _ => rfl
  | .vptr _ _, _ => rfl
  | .agg cs, h => by rw [PV.has]; exact hasL_free g cs (by rwa [PV.free] at h)
  | .tup cs, h => by rw [PV.has]; exact hasL_free g cs (by rwa [PV.free] at h)
  | .fn _ cs, h => by rw [PV.has]; exact hasL_free g cs (by rwa [PV.free] at h)
  | .own _ _ _, h => by simp [PV.free] at h
  | .optr _ _ _ _ _, h => by simp [PV.free] at h
  | .ptr _ _ _, h => by simp [PV.free] at h
theorem hasL_free (g : Nat) : ∀ (l : List PV), PV.freeL l = true → PV.hasL g l = false
  | [], _ => rfl
  | c :: cs, h => by
    simp only [PV.freeL, Bool.and_eq_true] at h
    simp [PV.hasL, has_free g c h.1, hasL_free g cs h.2]
end
mutual
theorem kill_free (g : Nat) : ∀ (p : PV), p.has g = false → p.kill g = p
  | .undef, _ => rfl
  | .lit _, _ => rfl
  | .nl, _ => rfl
  | .sl _, _ => rfl
  | .vptr _ _, _ => rfl
  | .agg cs, h => by rw [PV.kill, killL_free g cs (by rwa [PV.has] at h)]
  | .tup cs, h => by rw [PV.kill, killL_free g cs (by rwa [PV.has] at h)]
  | .fn _ cs, h => by rw [PV.kill, killL_free g cs (by rwa [PV.has] at h)]
  | .own _ _ _, h => by simp [PV.has] at h; simp [PV.kill, h]
  | .optr _ _ _ _ _, h => by simp [PV.has] at h; simp [PV.kill, h]
  | .ptr _ cs _, h => by simp [PV.has] at h; rw [PV.kill, killL_free g cs h.2]; simp [h.1]
theorem killL_free (g : Nat) : ∀ (l : List PV), PV.hasL g l = false → PV.killL g l = l
  | [], _ => rfl
  | c :: cs, h => by
    simp only [PV.hasL, Bool.or_eq_false_iff] at h
    simp [PV.killL, kill_free g c h.1, killL_free g cs h.2]
end
mutual
theorem upd_free (g off : Nat) (vs : List PV) : ∀ (p : PV), p.has g = false → p.upd g off vs = p
  | .undef, _ => rfl
  | .lit _, _ => rfl
  | .nl, _ => rfl
  | .sl _, _ => rfl
  | .vptr _ _, _ => rfl
  | .agg cs, h => by rw [PV.upd, updL_free g off vs cs (by rwa [PV.has] at h)]
  | .tup cs, h => by rw [PV.upd, updL_free g off vs cs (by rwa [PV.has] at h)]
  | .fn _ cs, h => by rw [PV.upd, updL_free g off vs cs (by rwa [PV.has] at h)]
  | .own _ _ _, _ => rfl
  | .optr _ _ _ _ _, _ => rfl
  | .ptr _ cs _, h => by simp [PV.has] at h; rw [PV.upd, updL_free g off vs cs h.2]; simp [h.1]
theorem updL_free (g off : Nat) (vs : List PV) : ∀ (l : List PV), PV.hasL g l = false → PV.updL g off vs l = l
  | [], _ => rfl
  | c :: cs, h => by
    simp only [PV.hasL, Bool.or_eq_false_iff] at h
    simp [PV.updL, upd_free g off vs c h.1, updL_free g off vs cs h.2]
end
mutual
theorem updR_free (g i off : Nat) (vs : List PV) : ∀ (p : PV), p.has g = false → p.updR g i off vs = p
  | .undef, _ => rfl
  | .lit _, _ => rfl
  | .nl, _ => rfl
  | .sl _, _ => rfl
  | .vptr _ _, _ => rfl
  | .agg cs, h => by rw [PV.updR, updRL_free g i off vs cs (by rwa [PV.has] at h)]
  | .tup cs, h => by rw [PV.updR, updRL_free g i off vs cs (by rwa [PV.has] at h)]
  | .fn _ cs, h => by rw [PV.updR, updRL_free g i off vs cs (by rwa [PV.has] at h)]
  | .own _ _ _, h => by simp [PV.has] at h; simp [PV.updR, h]
  | .optr _ _ _ _ _, h => by simp [PV.has] at h; simp [PV.updR, h]
  | .ptr _ cs _, h => by simp [PV.has] at h; rw [PV.updR, updRL_free g i off vs cs h.2]
theorem updRL_free (g i off : Nat) (vs : List PV) : ∀ (l : List PV), PV.hasL g l = false → PV.updRL g i off vs l = l
  | [], _ => rfl
  | c :: cs, h => by
    simp only [PV.hasL, Bool.or_eq_false_iff] at h
    simp [PV.updRL, updR_free g i off vs c h.1, updRL_free g i off vs cs h.2]
end
mutual
/-- Behind 'kill' the tag is gone. -/
theorem has_kill (g : Nat) : ∀ (p : PV), (p.kill g).has g = false
  | .undef => rfl
  | .lit _ => rfl
  | .nl => rfl
  | .sl _ => rfl
  | .vptr _ _ => rfl
  | .agg cs => by rw [PV.kill, PV.has]; exact hasL_killL g cs
  | .tup cs => by rw [PV.kill, PV.has]; exact hasL_killL g cs
  | .fn _ cs => by rw [PV.kill, PV.has]; exact hasL_killL g cs
  | .own g' _ _ => by by_cases h : g = g' <;> simp [PV.kill, h, PV.has]
  | .optr g' _ _ _ _ => by by_cases h : g = g' <;> simp [PV.kill, h, PV.has]
  | .ptr g' cs _ => by by_cases h : g = g' <;> simp [PV.kill, h, PV.has, hasL_killL g cs]
theorem hasL_killL (g : Nat) : ∀ (l : List PV), PV.hasL g (PV.killL g l) = false
  | [] => rfl
  | c :: cs => by simp [PV.killL, PV.hasL, has_kill g c, hasL_killL g cs]
end
mutual
/-- 'kill' brings no tag. -/
theorem has_of_kill (g g' : Nat) : ∀ (p : PV), (p.kill g).has g' = true → p.has g' = true
  | .undef => id
  | .lit _ => id
  | .nl => id
  | .sl _ => id
  | .vptr _ _ => id
  | .agg cs => by rw [PV.kill, PV.has, PV.has]; exact hasL_of_killL g g' cs
  | .tup cs => by rw [PV.kill, PV.has, PV.has]; exact hasL_of_killL g g' cs
  | .fn _ cs => by rw [PV.kill, PV.has, PV.has]; exact hasL_of_killL g g' cs
  | .own g1 _ _ => by by_cases h : g = g1 <;> simp [PV.kill, h, PV.has]
  | .optr g1 _ _ _ _ => by by_cases h : g = g1 <;> simp [PV.kill, h, PV.has]
  | .ptr g1 cs _ => by
    by_cases h : g = g1
    · simp [PV.kill, h, PV.has]
    · simp only [PV.kill, h, if_false, PV.has, Bool.or_eq_true]
      exact fun hh => hh.imp id (hasL_of_killL g g' cs)
theorem hasL_of_killL (g g' : Nat) : ∀ (l : List PV), PV.hasL g' (PV.killL g l) = true → PV.hasL g' l = true
  | [] => id
  | c :: cs => by
    simp only [PV.killL, PV.hasL, Bool.or_eq_true]
    exact fun hh => hh.imp (has_of_kill g g' c) (hasL_of_killL g g' cs)
end
theorem killL_get (g : Nat) (l : List PV) (i : Nat) : (PV.killL g l)[i]? = (l[i]?).map (PV.kill g) := by
  induction l generalizing i with
  | nil => simp [PV.killL]
  | cons c cs ih => cases i <;> simp [PV.killL, ih]
theorem killL_length (g : Nat) (l : List PV) : (PV.killL g l).length = l.length := by
  induction l <;> simp_all [PV.killL]
theorem updL_get (g off : Nat) (vs l : List PV) (i : Nat) : (PV.updL g off vs l)[i]? = (l[i]?).map (PV.upd g off vs) := by
  induction l generalizing i with
  | nil => simp [PV.updL]
  | cons c cs ih => cases i <;> simp [PV.updL, ih]
theorem updL_length (g off : Nat) (vs l : List PV) : (PV.updL g off vs l).length = l.length := by
  induction l <;> simp_all [PV.updL]
theorem updRL_get (g j off : Nat) (vs l : List PV) (i : Nat) : (PV.updRL g j off vs l)[i]? = (l[i]?).map (PV.updR g j off vs) := by
  induction l generalizing i with
  | nil => simp [PV.updRL]
  | cons c cs ih => cases i <;> simp [PV.updRL, ih]
theorem updRL_length (g j off : Nat) (vs l : List PV) : (PV.updRL g j off vs l).length = l.length := by
  induction l <;> simp_all [PV.updRL]
theorem viewL_get (l : List PV) (i : Nat) : (PV.viewL l)[i]? = (l[i]?).map PV.view := by
  induction l generalizing i with
  | nil => simp [PV.viewL]
  | cons c cs ih => cases i <;> simp [PV.viewL, ih]
theorem viewL_length (l : List PV) : (PV.viewL l).length = l.length := by
  induction l <;> simp_all [PV.viewL]

/-- 'kill' says less. -/
theorem RV.kill {P : Program} {w : World} {c : Ctx} (g : Nat) {pv : PV} {v : Value} (r : RV P w c pv v) : RV P w c (pv.kill g) v := by
  induction r with
  | free pv v h => rw [kill_free g pv (has_free g pv h.free)]; exact .free pv v h
  | own g' e es v xs hk0 hk ho hb h1 hr =>
    rw [PV.kill]; split
    · exact .free _ _ (.undef _)
    · exact .own g' e es v xs hk0 hk ho hb h1 hr
  | optr g' e es i off xs cap hk0 hk ho hb h1 hr =>
    rw [PV.kill]; split
    · exact .free _ _ (.undef _)
    · exact .optr g' e es i off xs cap hk0 hk ho hb h1 hr
  | agg cs vs hn hr ih =>
    rw [PV.kill]
    refine .agg _ vs (by rw [killL_length, hn]) fun i pv hg => ?_
    rw [killL_get] at hg
    cases hc : cs[i]? <;> simp [hc] at hg
    subst hg; exact ih i _ hc
  | tup cs vs hn hr ih =>
    rw [PV.kill]
    refine .tup _ vs (by rw [killL_length, hn]) fun i pv hg => ?_
    rw [killL_get] at hg
    cases hc : cs[i]? <;> simp [hc] at hg
    subst hg; exact ih i _ hc
  | ptr g' cs off vs T hb hh hn hr ih =>
    rw [PV.kill]; split
    · exact .free _ _ (.undef _)
    · refine .ptr g' _ off vs T hb hh (by rw [killL_length, hn]) fun i pv hg => ?_
      rw [killL_get] at hg
      cases hc : cs[i]? <;> simp [hc] at hg
      subst hg; exact ih i _ hc
  | fn f cs vs hn hr ih =>
    rw [PV.kill]
    refine .fn f _ vs (by rw [killL_length, hn]) fun i pv hg => ?_
    rw [killL_get] at hg
    cases hc : cs[i]? <;> simp [hc] at hg
    subst hg; exact ih i _ hc
end Go.VI
