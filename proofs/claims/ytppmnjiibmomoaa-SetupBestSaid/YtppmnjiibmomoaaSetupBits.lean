/- Sets of pairs as integers: what their functions reckon. -/
import Derived.Test.YtppmnjiibmomoaaSeMA
import Derived.Test.YtppmnjiibmomoaaVHC4
set_option linter.unusedVariables false
set_option linter.unusedSimpArgs false
set_option linter.unusedSectionVars false
namespace Go.SM
open Go Go.VI

/-- how many of the nine pairs -/
def pop (n : Nat) : Nat := (List.range 9).countP (fun i => n.testBit i)
/-- the pairs of s that are not in b -/
def sdiff (s b : Nat) : Nat := s &&& (511 ^^^ b)
/-- a set has one of the pairs -/
def hit (s : Nat) (need : List Int) : Bool := need.any (fun x => s.testBit x.toNat)
/-- a list as a set -/
def toB (l : List Int) : Nat := l.foldl (fun a x => a ||| 2 ^ x.toNat) 0

theorem ofInt_nat (n : Nat) : BitVec.ofInt 64 (n : Int) = BitVec.ofNat 64 n := by
  apply BitVec.eq_of_toNat_eq
  simp [BitVec.toNat_ofInt]
theorem wrap_nat {n : Nat} (h : n < 512) : IntKind.i64.wrap (n : Int) = n := wrap_id _ (by omega) (by omega)
theorem kand_nat {n m : Nat} (hn : n < 512) (hm : m < 512) : kand .i64 n m = ((n &&& m : Nat) : Int) := by
  unfold kand
  show IntKind.wrap .i64 ((BitVec.ofInt 64 (n : Int) &&& BitVec.ofInt 64 (m : Int)).toNat : Int) = _
  rw [ofInt_nat, ofInt_nat, BitVec.toNat_and, BitVec.toNat_ofNat, BitVec.toNat_ofNat, Nat.mod_eq_of_lt (by omega), Nat.mod_eq_of_lt (by omega)]
  exact wrap_nat (Nat.lt_of_le_of_lt Nat.and_le_left hn)
theorem kor_nat {n m : Nat} (hn : n < 512) (hm : m < 512) : kor .i64 n m = ((n ||| m : Nat) : Int) := by
  unfold kor
  show IntKind.wrap .i64 ((BitVec.ofInt 64 (n : Int) ||| BitVec.ofInt 64 (m : Int)).toNat : Int) = _
  rw [ofInt_nat, ofInt_nat, BitVec.toNat_or, BitVec.toNat_ofNat, BitVec.toNat_ofNat, Nat.mod_eq_of_lt (by omega), Nat.mod_eq_of_lt (by omega)]
  exact wrap_nat (Nat.or_lt_two_pow (n := 9) hn hm)
theorem test511 (i : Nat) : (511 : Nat).testBit i = decide (i < 9) := by
  have : (511 : Nat) = 2 ^ 9 - 1 := rfl
  rw [this, Nat.testBit_two_pow_sub_one]
theorem sdiff_test {s b : Nat} (hs : s < 512) (i : Nat) : (sdiff s b).testBit i = (s.testBit i && !b.testBit i) := by
  unfold sdiff
  rw [Nat.testBit_and, Nat.testBit_xor, test511]
  by_cases h : i < 9
  · simp [h]
  · have : s.testBit i = false := Nat.testBit_lt_two_pow (Nat.lt_of_lt_of_le hs (Nat.pow_le_pow_right (n := 2) (by omega) (by omega : 9 ≤ i)))
    simp [this]
theorem sdiff_lt {s b : Nat} (hs : s < 512) : sdiff s b < 512 := Nat.lt_of_le_of_lt Nat.and_le_left hs
theorem kandNot_nat {n m : Nat} (hn : n < 512) (hm : m < 512) : kandNot .i64 n m = ((sdiff n m : Nat) : Int) := by
  unfold kandNot
  show IntKind.wrap .i64 ((BitVec.ofInt 64 (n : Int) &&& ~~~(BitVec.ofInt 64 (m : Int))).toNat : Int) = _
  have : (BitVec.ofInt 64 (n : Int) &&& ~~~(BitVec.ofInt 64 (m : Int))).toNat = sdiff n m := by
    apply Nat.eq_of_testBit_eq
    intro i
    rw [sdiff_test hn, ofInt_nat, ofInt_nat, BitVec.toNat_and, Nat.testBit_and, BitVec.testBit_toNat, BitVec.testBit_toNat, BitVec.getLsbD_not]
    rw [BitVec.getLsbD_ofNat, BitVec.getLsbD_ofNat]
    by_cases h : i < 64
    · simp [h]
    · have : n.testBit i = false := Nat.testBit_lt_two_pow (Nat.lt_of_lt_of_le hn (Nat.pow_le_pow_right (n := 2) (by omega) (by omega : 9 ≤ i)))
      simp [this]
  rw [this]
  exact wrap_nat (sdiff_lt hn)
theorem ones_all : ((List.range 512).all fun n => decide (bits_OnesCount (IntKind.wrap .u64 (n : Int)) = some (pop n : Int))) = true := by decide +kernel
theorem ones {n : Nat} (h : n < 512) : bits_OnesCount (IntKind.wrap .u64 (n : Int)) = some (pop n : Int) := of_decide_eq_true (List.all_eq_true.1 ones_all n (List.mem_range.2 h))

/-! ### lists as sets -/
theorem toB_go (l : List Int) : ∀ a i, (l.foldl (fun (a : Nat) (x : Int) => a ||| 2 ^ x.toNat) a).testBit i = (a.testBit i || l.any (fun x => x.toNat == i)) := by
  induction l with
  | nil => intro a i; simp
  | cons x l ih =>
    intro a i
    rw [List.foldl_cons, ih, Nat.testBit_or, Nat.testBit_two_pow, List.any_cons]
    by_cases h : x.toNat = i
    · simp [h]
    · have : (x.toNat == i) = false := by simp [h]
      simp [h, this]
theorem toB_test (l : List Int) (i : Nat) : (toB l).testBit i = l.any (fun x => x.toNat == i) := by
  unfold toB; rw [toB_go]; simp
def Small (l : List Int) : Prop := ∀ x ∈ l, 0 ≤ x ∧ x < 9
theorem or_pow_lt {a : Nat} {x : Int} (ha : a < 512) (hx : 0 ≤ x ∧ x < 9) : a ||| 2 ^ x.toNat < 512 :=
  Nat.or_lt_two_pow (n := 9) ha (Nat.pow_lt_pow_right (by omega) (by omega))
theorem toB_lt {l : List Int} (h : Small l) : toB l < 512 := by
  have : ∀ (l : List Int) (a : Nat), (∀ x ∈ l, 0 ≤ x ∧ x < 9) → a < 512 → l.foldl (fun (a : Nat) (x : Int) => a ||| 2 ^ x.toNat) a < 512 := by
    intro l
    induction l with
    | nil => intro a _ h; exact h
    | cons x l ih => intro a hl h; exact ih _ (fun y hy => hl y (by simp [hy])) (or_pow_lt h (hl x (by simp)))
  exact this l 0 h (by omega)
theorem pow_nat {x : Int} (hx : 0 ≤ x ∧ x < 9) : IntKind.wrap .i64 (1 * 2 ^ (min (Int.toNat x) 64)) = ((2 ^ x.toNat : Nat) : Int) := by
  have h9 : x.toNat < 9 := by omega
  have hp : 2 ^ x.toNat < 512 := Nat.pow_lt_pow_right (n := 9) (by omega) h9
  rw [Int.one_mul, Nat.min_eq_left (by omega)]
  have : (2 : Int) ^ x.toNat = ((2 ^ x.toNat : Nat) : Int) := by simp
  rw [this]
  exact wrap_nat hp
theorem and_zero {s : Nat} {l : List Int} : (s &&& toB l) = 0 ↔ hit s l = false := by
  unfold hit
  constructor
  · intro h
    rw [List.any_eq_false]
    intro x hx hb
    have : (s &&& toB l).testBit x.toNat = true := by
      rw [Nat.testBit_and, hb, toB_test, Bool.true_and, List.any_eq_true]
      exact ⟨x, hx, by simp⟩
    rw [h] at this
    simp at this
  · intro h
    apply Nat.eq_of_testBit_eq
    intro i
    rw [Nat.testBit_and, toB_test, Nat.zero_testBit]
    cases hs : s.testBit i with
    | false => rfl
    | true =>
      rw [Bool.true_and, List.any_eq_false]
      intro x hx hb
      have : x.toNat = i := by simpa using hb
      subst this
      exact (List.any_eq_false.1 h) x hx hs
theorem kand_hit {s : Nat} {l : List Int} (hs : s < 512) (hl : Small l) : (kand .i64 s (toB l : Int) == 0) = !hit s l := by
  rw [kand_nat hs (toB_lt hl)]
  cases h : hit s l with
  | true =>
    have : ¬ (s &&& toB l) = 0 := fun e => by rw [and_zero.1 e] at h; cases h
    simp only [Bool.not_true, beq_eq_false_iff_ne, ne_eq]
    omega
  | false => rw [and_zero.2 h]; rfl
theorem bitsOf_ok {l : List Int} (hl : Small l) (hlen : l.length ≤ 60) : setup_bitsOf l = some (toB l : Int) := by
  unfold setup_bitsOf
  have := (loop_acc l (fun (a : Nat) x => a ||| 2 ^ x.toNat) (fun k a => ((a : Int), (k : Int))) (setup_bitsOf_l1 l) (fun a => (a : Int)) (fun _ a => a < 512) 0 (by omega) (fun k x a hx ha => ?_) (fun a ha => ?_)).1
  · rw [show ((0 : Int), (0 : Int)) = ((((0 : Nat) : Int)), ((0 : Nat) : Int)) from rfl, this]; rfl
  · have hk := lt_of_get hx
    have hm := hl x (List.mem_of_getElem? hx)
    have h1 : decide ((k : Int) < (l.length : Int)) = true := by simp [hk]
    have h2 : decide (0 ≤ x) = true := by simp [hm.1]
    unfold setup_bitsOf_l1
    simp only [h1, h2, if_true, idx_of hx, Option.bind_some]
    rw [pow_nat hm, kor_nat ha (Nat.pow_lt_pow_right (n := 9) (by omega) (by omega)), succ_cast k (by omega)]
    exact ⟨rfl, or_pow_lt ha hm⟩
  · unfold setup_bitsOf_l1
    simp

/-! ### the sets that fit -/
theorem foldl_filter {α β : Type} (p : α → Bool) (g : α → β) (l : List α) : ∀ a : List β, l.foldl (fun a x => if p x then a ++ [g x] else a) a = a ++ (l.filter p).map g := by
  induction l with
  | nil => intro a; simp
  | cons x l ih =>
    intro a
    rw [List.foldl_cons, ih, List.filter_cons]
    cases h : p x <;> simp
/-- the sets of at most st pairs -/
def mnt (st : Int) : List Nat := (List.range 512).filter fun n => decide ((pop n : Int) ≤ st)
theorem mem_mnt {st : Int} {s : Nat} : s ∈ mnt st ↔ s < 512 ∧ (pop s : Int) ≤ st := by simp [mnt]
set_option maxRecDepth 20000 in
theorem mounts_ok (st : Int) : setup_mounts st = some ((mnt st).map fun (n : Nat) => (n : Int)) := by
  unfold setup_mounts
  have := (loop_acc (List.range 512) (fun (a : List Int) n => if decide ((pop n : Int) ≤ st) then a ++ [(n : Int)] else a) (fun k a => ((k : Int), a)) (setup_mounts_l2 st) (fun a => a) (fun k a => a.length ≤ k) [] (by simp) (fun k x a hx ha => ?_) (fun a ha => ?_)).1
  · rw [show ((0 : Int), ([] : List Int)) = (((0 : Nat) : Int), ([] : List Int)) from rfl, this, foldl_filter]; rfl
  · have hk := lt_of_get hx
    rw [List.length_range] at hk
    obtain rfl : x = k := by rw [List.getElem?_range hk] at hx; exact (Option.some.inj hx).symm
    unfold setup_mounts_l2
    have h1 : decide ((x : Int) < 512) = true := by simp; omega
    simp only [h1, if_true, ones hk, Option.bind_some]
    by_cases hp : (pop x : Int) ≤ st
    · simp only [hp, decide_true, if_true]
      rw [app_eq (by simp [LIM]; omega)]
      simp only [Option.bind_some, setup_mounts_k1]
      rw [succ_cast x (by omega)]
      exact ⟨rfl, by simp; omega⟩
    · simp only [hp, decide_false, Bool.false_eq_true, if_false, setup_mounts_k1]
      rw [succ_cast x (by omega)]
      exact ⟨rfl, by omega⟩
  · unfold setup_mounts_l2
    simp
end Go.SM
