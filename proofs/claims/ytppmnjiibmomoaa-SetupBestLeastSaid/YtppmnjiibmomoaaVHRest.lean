/- The other operations. -/
import Derived.Test.YtppmnjiibmomoaaVHAppend
set_option linter.unusedVariables false
set_option linter.unusedSimpArgs false
set_option linter.unusedSectionVars false
namespace Go.VI
open Go.RowKit

/-- '==' at a type of n integer cells goes cell by cell. -/
def EqC (P : Program) (t : TypeId) (n : Nat) : Prop :=
  P.eqGuardType P.depth t = false ∧ ∀ (xs ys : List Int) (w : World), xs.length = n → ys.length = n → (Op.equal t (.agg (xs.map (Value.int .i64)).toArray) (.agg (ys.map (Value.int .i64)).toArray)).run P w = .ok (decide (xs = ys)) w

section
variable {P : Program} {E : Ent} {S0 : Nat → Prop} {N : Nat} {σ : St} {a : Act} {w : World} {c : Ctx}

theorem RV.lit_eq {u v : Value} (r : RV P w c (.lit u) v) : v = u := by cases r with | free _ _ h => cases h; rfl

theorem RV.nl_eq {v : Value} (r : RV P w c .nl v) : v = .slice none 0 0 := by cases r with | free _ _ h => cases h; rfl

theorem exec_val {o : Oper} {s : Sem Value} {v : Value} {w' : World} (he : execOp a.eval o = (do pure (.value (← s)))) (h : s.run P w = .ok v w') : (execOp a.eval o).run P w = .ok (.value v) w' := by
  rw [he]
  simp only [Sem.run_bind, Sem.run_pure, h, Result.andThen_ok]

theorem pbin_ok {op : BinOp} {t : TypeId} {x y pv : PV} {X Y : Value} (rx : RV P w c x X) (ry : RV P w c y Y) (h : pbin op x y = some pv) :
    ∃ v, (binOp op t X Y).run P w = .ok v w ∧ RV P w c pv v ∧ (∃ k n k' m, X = .int k n ∧ Y = .int k' m) := by
  unfold pbin at h
  split at h
  · rename_i k n k' m
    obtain rfl := rx.lit_eq
    obtain rfl := ry.lit_eq
    suffices hh : ∃ v, (binOp op t (.int k n) (.int k' m)).run P w = .ok v w ∧ RV P w c pv v by
      obtain ⟨v, h1, h2⟩ := hh
      exact ⟨v, h1, h2, k, n, k', m, rfl, rfl⟩
    cases op <;> simp only at h <;> split at h <;> first
      | (cases h; done)
      | (rename_i hk
         injection h with h
         subst h
         refine ⟨_, ?_, .free _ _ (.lit _)⟩
         first
          | (subst hk; simp [binOp, Op.intArith, Op.intCmp, Op.intBits]; done)
          | (obtain ⟨rfl, hk⟩ := hk; simp [binOp, Op.intDiv, hk]; done)
          | (have hn : ¬ m < 0 := by omega
             simp [binOp, Op.shift, hn]; done))
  · cases h

theorem pbin2_ok {op : BinOp} {t : TypeId} {x y pv : PV} {X Y : Value} (rx : RV P w c x X) (ry : RV P w c y Y) (h : pbin2 P op t x y = some pv) :
    ∃ v, (binOp op t X Y).run P w = .ok v w ∧ RV P w c pv v ∧ ∀ u v : Operand, (eqGuard op t u v X Y).run P w = .ok () w := by
  unfold pbin2 at h
  split at h
  · obtain rfl := rx.lit_eq
    obtain rfl := ry.lit_eq
    split at h
    case isFalse => cases h
    rename_i hb
    have hu : P.underlying t = some .bool := by
      unfold tBool at hb
      split at hb
      · assumption
      · cases hb
    have he : ∀ a b : Bool, (Op.equal t (.bool a) (.bool b)).run P w = .ok (a == b) w := fun a b => by
      unfold Op.equal Op.maxDepth
      unfold Op.equalIn
      simp only [Sem.run_bind, run_underlying hu, Result.andThen_ok, Sem.run_pure]
    have hg : ∀ (a b : Bool) (u v : Operand), (eqGuard op t u v (.bool a) (.bool b)).run P w = .ok () w := fun a b u v => by
      unfold eqGuard
      cases op <;> simp <;> rfl
    split at h
    · injection h with h; subst h
      exact ⟨_, by simp [binOp, he], .free _ _ (.lit _), hg _ _⟩
    · injection h with h; subst h
      exact ⟨_, by simp [binOp, he], .free _ _ (.lit _), hg _ _⟩
    · cases h
  · obtain rfl := rx.lit_eq
    obtain rfl := ry.lit_eq
    have hg : ∀ (a b : ByteArray) (u v : Operand), (eqGuard op t u v (.string a) (.string b)).run P w = .ok () w := fun a b u v => by
      unfold eqGuard
      cases op <;> simp <;> rfl
    cases op <;> simp only [reduceCtorEq] at h <;> (injection h with h; subst h; exact ⟨_, by first | (simp [binOp, Op.stringOp]; done) | (simp [binOp, Op.stringOp]; rfl), .free _ _ (.lit _), hg _ _⟩)
  · obtain ⟨v, h1, h2, k, n, k', m, rfl, rfl⟩ := pbin_ok (t := t) rx ry h
    refine ⟨v, h1, h2, fun u v => ?_⟩
    unfold eqGuard
    cases op <;> simp <;> rfl

theorem pun_ok {op : UnOp} {x pv : PV} {X : Value} (rx : RV P w c x X) (h : pun op x = some pv) : ∃ v, (Op.unary op X).run P w = .ok v w ∧ RV P w c pv v := by
  unfold pun at h
  split at h
  · obtain rfl := rx.lit_eq
    injection h with h; subst h
    exact ⟨_, by simp [Op.unary, Op.intArith], .free _ _ (.lit _)⟩
  · obtain rfl := rx.lit_eq
    injection h with h; subst h
    exact ⟨_, by simp [Op.unary], .free _ _ (.lit _)⟩
  · cases h

theorem peqL_ok : ∀ {xs ys : List PV} {b : Bool}, peqL xs ys = some b → ∃ as bs : List Int, xs = as.map (fun n => PV.lit (.int .i64 n)) ∧ ys = bs.map (fun n => PV.lit (.int .i64 n)) ∧ b = decide (as = bs)
  | [], [], b, h => by simp [peqL] at h; exact ⟨[], [], rfl, rfl, by simp [h]⟩
  | .lit (.int .i64 a) :: xs, .lit (.int .i64 b') :: ys, b, h => by
    simp only [peqL, Option.map_eq_some_iff] at h
    obtain ⟨b1, h1, h2⟩ := h
    obtain ⟨as, bs, q1, q2, q3⟩ := peqL_ok h1
    refine ⟨a :: as, b' :: bs, by simp [q1], by simp [q2], ?_⟩
    subst h2 q3
    by_cases e : a = b' <;> by_cases e' : as = bs <;> simp [e, e']
  | [], _ :: _, _, h => by simp [peqL] at h
  | .lit (.int .i64 _) :: _, [], _, h => by simp [peqL] at h
  | x :: xs, y :: ys, b, h => by
    unfold peqL at h
    split at h
    · simp_all
    · rename_i a' xs' b' ys' e1 e2
      simp only [Option.map_eq_some_iff] at h
      obtain ⟨b1, h1, h2⟩ := h
      injection e1 with e1 e1'
      injection e2 with e2 e2'
      subst e1 e1' e2 e2'
      obtain ⟨as, bs, q1, q2, q3⟩ := peqL_ok h1
      refine ⟨a' :: as, b' :: bs, by simp [q1], by simp [q2], ?_⟩
      subst h2 q3
      by_cases e : a' = b' <;> by_cases e' : as = bs <;> simp [e, e']
    · cases h
  | x :: xs, [], b, h => by unfold peqL at h; split at h <;> simp_all
theorem agg_ints {as : List Int} {X : Value} (r : RV P w c (.agg (as.map fun n => PV.lit (.int .i64 n))) X) : X = .agg (as.map (Value.int .i64)).toArray := by
  have main : ∃ vs : Array Value, X = .agg vs ∧ vs.size = as.length ∧ ∀ (i : Nat) pv, (as.map fun n => PV.lit (.int .i64 n))[i]? = some pv → RV P w c pv (vs.getD i undef) := by
    cases r with
    | free pv v hf => cases hf with | agg cs vs hn hr => exact ⟨vs, rfl, by simpa using hn, fun i pv hg => .free _ _ (hr i pv hg)⟩
    | agg cs vs hn hr => exact ⟨vs, rfl, by simpa using hn, hr⟩
  obtain ⟨vs, rfl, hn, hr⟩ := main
  congr 1
  apply Array.ext
  · simp [hn]
  · intro i h1 h2
    have hi : i < as.length := by omega
    have := (hr i (.lit (.int .i64 as[i])) (by simp [hi])).lit_eq
    simp only [Array.getD_eq_getD_getElem?, h1, getElem?_pos, Option.getD_some] at this
    simp [this]

theorem int_of_pidx {x : PV} {X : Value} {i : Nat} (r : RV P w c x X) (h : pidx x = some i) : ∃ k, X = .int k i := by
  unfold pidx at h
  split at h
  · rename_i k n
    split at h
    · injection h with h
      subst h
      exact ⟨k, by rw [r.lit_eq, Int.toNat_of_nonneg (by assumption)]⟩
    · cases h
  · cases h

/-- from a part of the cells of a struct or an array -/
theorem agg_cells {cs : List PV} {X : Value} (r : RV P w c (.agg cs) X) : ∃ vs : Array Value, X = .agg vs ∧ vs.size = cs.length ∧ ∀ (i : Nat) pv, cs[i]? = some pv → RV P w c pv (vs.getD i undef) := by
  cases r with
  | free pv v hf => cases hf with | agg cs vs hn hr => exact ⟨vs, rfl, hn, fun i pv hg => .free _ _ (hr i pv hg)⟩
  | agg cs vs hn hr => exact ⟨vs, rfl, hn, hr⟩
theorem tup_cells {cs : List PV} {X : Value} (r : RV P w c (.tup cs) X) : ∃ vs : Array Value, X = .tuple vs ∧ vs.size = cs.length ∧ ∀ (i : Nat) pv, cs[i]? = some pv → RV P w c pv (vs.getD i undef) := by
  cases r with
  | free pv v hf => cases hf with | tup cs vs hn hr => exact ⟨vs, rfl, hn, fun i pv hg => .free _ _ (hr i pv hg)⟩
  | tup cs vs hn hr => exact ⟨vs, rfl, hn, hr⟩
theorem part_ok {t : TypeId} {agg : Bool} (hagg : tAgg P t = some agg) {cs : List PV} {vs : Array Value} (hn : vs.size = cs.length) (hr : ∀ (i : Nat) pv, cs[i]? = some pv → RV P w c pv (vs.getD i undef)) {off : Nat} {pv : PV}
    (h : (if agg = true then (range? cs off (tSize P t)).map PV.agg else cs[off]?) = some pv) : ∃ v, (part t vs off).run P w = .ok v w ∧ RV P w c pv v := by
  unfold part
  simp only [Sem.run_bind, run_isAgg hagg, Result.andThen_ok]
  cases agg with
  | true =>
    simp only [if_true] at h ⊢
    cases hg : range? cs off (tSize P t) with
    | none => simp [hg] at h
    | some l =>
      simp [hg] at h
      subst h
      obtain ⟨h1, h2, h3⟩ := range?_some hg
      simp only [Sem.run_bind, run_sizeOf (info_of_agg hagg), Result.andThen_ok, Sem.run_pure]
      refine ⟨_, rfl, .agg l _ (by simp; omega) fun i p hp => ?_⟩
      have hi : i < tSize P t := by
        rcases Nat.lt_or_ge i l.length with hh | hh
        · omega
        · rw [List.getElem?_eq_none hh] at hp; cases hp
      have : (vs.extract off (off + tSize P t)).getD i undef = vs.getD (off + i) undef := by
        simp only [Array.getD_eq_getD_getElem?, Array.getElem?_extract]
        rw [if_pos (by omega)]
      rw [this]
      exact hr _ p (h3 i p hp)
  | false =>
    simp only [Bool.false_eq_true, if_false] at h ⊢
    have hi : off < cs.length := by
      rcases Nat.lt_or_ge off cs.length with hh | hh
      · exact hh
      · rw [List.getElem?_eq_none hh] at h; cases h
    rw [getD_lt (d := undef) (show off < vs.size by omega)]
    exact ⟨_, rfl, hr _ pv h⟩

theorem padd_ok {n : Nat} {p q : PV} {v : Value} (r : RV P w c p v) (h : padd n p = some q) : ∃ ad : Addr, v = .pointer (some ad) ∧ RV P w c q (.pointer (some (ad.add n))) := by
  unfold padd at h
  cases r with
  | free pv v hf =>
    cases hf with
    | vptr cs off ad vf hS hcell hr =>
      injection h with h; subst h
      exact ⟨_, rfl, by rw [add_add]; exact .free _ _ (.vptr cs (off + n) ad vf hS hcell hr)⟩
    | _ => simp at h
  | ptr g off => injection h with h; subst h; exact ⟨_, rfl, by rw [add_lit]; exact .ptr g (off + n)⟩
  | rptr k e i off he => injection h with h; subst h; exact ⟨_, rfl, by rw [add_lit, Nat.add_assoc]; exact .rptr k e i (off + n) he⟩
  | _ => simp at h

theorem pindexAddr_ok {t e : TypeId} (ht : tElem P t = some e) (hinfo : ∃ i, P.info? e = some i) {h : HP} (objs : ∀ g o, h.get g = some o → HRep P w c g o) {x q : PV} {X : Value} {i : Nat} {k : IntKind} (r : RV P w c x X) (hp : pindexAddr (tSize P e) h x i = some q) :
    ∃ v, (Instr.indexAt t X (.int k i)).run P w = .ok v w ∧ RV P w c q v := by
  have hu := tElem_some ht
  have run : ∀ (ad : Addr) (n cc : Nat), i < n → (Instr.indexAt t (.slice (some ad) n cc) (.int k i)).run P w = .ok (.pointer (some (ad.add (i * tSize P e)))) w := by
    intro ad n cc hi
    have h2 : (0 : Int) ≤ (i : Int) ∧ (i : Int) < (n : Int) := by omega
    simp only [Instr.indexAt, asIntOf, Sem.run_bind, Sem.run_pure, Result.andThen_ok, run_underlying hu, h2, and_self, if_true, run_sizeOf hinfo, Int.toNat_natCast]
  unfold pindexAddr at hp
  cases r with
  | free pv v hf =>
    cases hf with
    | sl es k' A n cc vf hn hk hk0 hc ha hcell h1 hr =>
      simp only at hp
      split at hp
      case h_2 => cases hp
      rename_i l he
      split at hp
      case isFalse => cases hp
      rename_i hl
      injection hp with hp
      subst hp
      have hi := len_of_get he
      subst hn
      obtain ⟨ad, rfl, hS⟩ := ha (by rintro rfl; simp at he)
      obtain rfl : k' = tSize P e := by rw [← hk l (List.mem_of_getElem? he), hl]
      refine ⟨_, run ad _ cc hi, .free _ _ ?_⟩
      have hx : ad.add (i * tSize P e) = (ad.add (i * tSize P e)).add 0 := by rw [add_add]; rfl
      rw [hx]
      refine .vptr l 0 (ad.add (i * tSize P e)) (fun j => vf i j) (by rw [add_block]; exact hS) (fun j pv hg => ?_) (fun j pv hg => ?_)
      · rw [add_add]; exact hcell ad rfl i j pv (by unfold getE; rw [he]; exact hg)
      · exact hr i j pv (by unfold getE; rw [he]; exact hg)
    | _ => simp at hp
  | row k' e0 he0 _ =>
    simp only at hp
    split at hp
    case h_2 => cases hp
    rename_i es hr
    split at hp
    case h_2 => cases hp
    rename_i l hl
    split at hp
    case isFalse => cases hp
    rename_i hsz
    injection hp with hp
    subst hp
    obtain ⟨e', xs, rr⟩ := rowAt_rep objs hr
    obtain rfl : e' = e0 := rr.ty.symm.trans he0
    have hs : tSize P e' = tSize P e := by rw [← rr.len l (List.mem_of_getElem? hl), hsz]
    have hi := len_of_get hl
    rcases rr.own.2 with ⟨h0, hn⟩ | ⟨g2, cap, cur, h0, hb2, hg2, hnc, rest⟩
    · omega
    · obtain ⟨_, hτ⟩ := rr.blk g2 (by rw [h0]; rfl)
      rw [h0]
      refine ⟨_, run _ _ cap hi, ?_⟩
      rw [add_lit, ← hs, Nat.zero_add, ← hτ]
      exact .rptr k' e' i 0 he0
  | part k' e0 lo n A cc he0 hn hA =>
    simp only at hp
    split at hp
    case h_2 => cases hp
    rename_i es hr
    split at hp
    case h_2 => cases hp
    rename_i l hl
    split at hp
    case isFalse => cases hp
    rename_i hc
    obtain ⟨hsz, hi⟩ := hc
    injection hp with hp
    subst hp
    obtain ⟨e', xs, rr⟩ := rowAt_rep objs hr
    obtain rfl : e' = e0 := rr.ty.symm.trans he0
    have hs : tSize P e' = tSize P e := by rw [← rr.len l (List.mem_of_getElem? hl), hsz]
    rw [hA (by omega)]
    refine ⟨_, run _ _ cc hi, ?_⟩
    rw [add_lit, ← hs, ← Nat.add_mul]
    exact .rptr k' e' (lo + i) 0 he0
  | _ => simp at hp

theorem plen_ok {t e : TypeId} (ht : P.underlying t = some (.slice e)) {h : HP} (objs : ∀ g o, h.get g = some o → HRep P w c g o) {x : PV} {X : Value} {n : Int} (r : RV P w c x X) (hp : plen h x = some n) (ty : TypeId) :
    (Builtin.len_ #[t] ty #[X]).run P w = .ok (.int .i64 n) w := by
  have slice : ∀ A (m cc : Nat), (Builtin.len_ #[t] ty #[.slice A m cc]).run P w = .ok (.int .i64 m) w := by
    intro A m cc
    simp [Builtin.len_, run_underlying ht, goInt]
  unfold plen at hp
  cases r with
  | free pv v hf =>
    cases hf with
    | sl es k' A n cc vf hn => injection hp with hp; subst hp hn; exact slice _ _ _
    | nl => injection hp with hp; subst hp; exact slice none 0 0
    | _ => simp at hp
  | row k e he _ =>
    simp only [PV.elems, Option.map_eq_some_iff] at hp
    obtain ⟨es, hr, rfl⟩ := hp
    obtain ⟨e', xs, rr⟩ := rowAt_rep objs hr
    rcases rr.own.2 with ⟨h0, hn⟩ | ⟨g2, cap, cur, h0, _⟩
    · rw [h0, hn]; exact slice none 0 0
    · rw [h0]; exact slice _ _ _
  | part k e lo n A cc => injection hp with hp; subst hp; exact slice _ _ _
  | _ => simp at hp
theorem plenS_ok {t : TypeId} (ht : P.underlying t = some .string) {x : PV} {X : Value} {n : Int} (r : RV P w c x X) (h : plenS x = some n) (ty : TypeId) :
    (Builtin.len_ #[t] ty #[X]).run P w = .ok (.int .i64 n) w := by
  unfold plenS at h
  split at h
  · injection h with h
    subst h
    rw [r.lit_eq]
    simp [Builtin.len_, run_underlying ht, goInt]
  · cases h


theorem dst_small {o : Oper} (h : Inv P E S0 N σ a w c) (hd : ∀ k, o.dst = some k → k < N) : o.dst.getD 0 < PIN := by
  cases hq : o.dst with
  | none => decide
  | some k => exact Nat.lt_of_lt_of_le (hd k hq) h.small
/-- A new box under the slot's own tag. -/
theorem does_box {o : Oper} {cs : List PV} {T : TypeId} {vs : Array Value} (h : Inv P E S0 N σ a w c) (hd : ∀ k, o.dst = some k → k < N)
    (hrun : (execOp a.eval o).run P w = .ok (.value (.pointer (some ⟨w.heap.size, 0, none⟩))) (w.alloc (.cells vs T))) (hn : vs.size = cs.length)
    (hr : ∀ (i : Nat) pv, cs[i]? = some pv → RV P w c pv (vs.getD i undef)) (hno : PV.hasL (ofTag (o.dst.getD 0)) cs = false) :
    Does P E S0 N o a w (Res.put σ o.dst (.new (o.dst.getD 0) (.box cs) (.ptr (o.dst.getD 0) 0))) := by
  have hb : Below w.heap.size w (w.alloc (.cells vs T)) := (Below.refl _ _).alloc (Nat.le_refl _) _
  let c' := c.lay (o.dst.getD 0) w.heap.size undef 0 True
  have hok : c'.Ok E.M (w.alloc (.cells vs T)) := lay_ok h.ok hb.size (fun _ => ⟨h.below.mine (Nat.le_refl _), by simp, fun hS => by have := h.ok.hS _ hS; omega⟩) fun _ k' _ hg' e => by have := (h.ok.hD k' hg').2.1; omega
  have e1 : c'.τ (.top (o.dst.getD 0)) = w.heap.size := lay_top.1
  refine does_new (dst_small h hd) h hd hrun hb hok (fun _ => Iff.rfl) (fun k hk => ⟨lay_agree hk, (lay_D hk).2⟩) ⟨lay_top.2.2.2.2 trivial, vs, T, by rw [e1]; exact heap_alloc_new w _, hn, fun i pv hg => ?_⟩ ?_
  · exact (hr i pv hg).keep (c' := c') (p := ofTag (o.dst.getD 0)) (fun b hS => hb.block b (h.ok.hS b hS)) (fun _ h => h) (fun k hk => lay_agree (ofTag_ff.1 hk)) (hasL_of hg hno)
  · have := RV.ptr (P := P) (w := w.alloc (.cells vs T)) (c := c') (o.dst.getD 0) 0
    rwa [e1] at this

theorem zero_cells {z : Value} : (ofV z).cells.length = z.cells.size ∧ ∀ (i : Nat) pv, (ofV z).cells[i]? = some pv → RF w c.S pv (z.cells.getD i undef) := by
  have hz := ofV_RF w c.S z
  by_cases ha : ∃ cs, z = .agg cs
  · obtain ⟨cs, rfl⟩ := ha
    cases hz with
    | agg l vs hn hr => exact ⟨hn.symm, hr⟩
  · have e1 : z.cells = #[z] := by cases z <;> first | rfl | exact absurd ⟨_, rfl⟩ ha
    have e2 : (ofV z).cells = [ofV z] := by
      have : ∀ l, ofV z ≠ .agg l := by
        intro l e
        rw [e] at hz
        cases hz
        exact ha ⟨_, rfl⟩
      revert this
      cases ofV z <;> first | (intro _; rfl) | (intro h; exact absurd rfl (h _))
    rw [e1, e2]
    refine ⟨rfl, fun i pv hg => ?_⟩
    cases i with
    | zero => simp at hg; subst hg; exact hz
    | succ i => simp at hg
end
end Go.VI
