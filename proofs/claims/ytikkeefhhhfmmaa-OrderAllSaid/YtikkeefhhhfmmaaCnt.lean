/- How many orders there are, counted one way, in plain numbers. Conditions: none. -/
import Derived.Test.YtikkeefhhhfmmaaBase
import Derived.Laws.BitsLemmas
import Derived.IntWalk
set_option linter.unusedVariables false
namespace Go.Proofs.Ytikkeefhhhfmmaa
open Go.RowKit

/-- How many of the first n are not gone. -/
def rem : Nat → (Nat → Bool) → Nat
  | 0, _ => 0
  | n + 1, g => rem n g + (if g n then 0 else 1)
def with1 (g : Nat → Bool) (i : Nat) : Nat → Bool := fun j => j == i || g j
def sumTo : Nat → (Nat → Nat) → Nat
  | 0, _ => 0
  | n + 1, f => sumTo n f + f n
def free (D : Nat → Nat → Bool) (g : Nat → Bool) (i : Nat) : Bool := (List.range i).all fun j => g j || !D j i
def cnt (D : Nat → Nat → Bool) (n : Nat) : Nat → (Nat → Bool) → Nat
  | 0, _ => 1
  | k + 1, g => sumTo n fun i => if !g i && free D g i then cnt D n k (with1 g i) else 0

theorem rem_congr : ∀ (n : Nat) (g g' : Nat → Bool), (∀ i, i < n → g i = g' i) → rem n g = rem n g'
  | 0, _, _, _ => rfl
  | n + 1, g, g', h => by
    simp only [rem]
    rw [rem_congr n g g' fun i hi => h i (by omega), h n (by omega)]
theorem rem_with : ∀ (n : Nat) (g : Nat → Bool) (i : Nat), i < n → g i = false → rem n g = rem n (with1 g i) + 1
  | n + 1, g, i, hi, hg => by
    simp only [rem]
    by_cases h : i = n
    · subst h
      rw [rem_congr i g (with1 g i) fun j hj => by simp only [with1]; rw [show (j == i) = false by simp; omega]; simp, hg]
      simp [with1]
    · rw [rem_with n g i (by omega) hg]
      have : with1 g i n = g n := by simp only [with1]; rw [show (n == i) = false by simp; omega]; simp
      rw [this]; omega
theorem rem_zero : ∀ (n : Nat) (g : Nat → Bool), rem n g = 0 → ∀ i, i < n → g i = true
  | n + 1, g, h, i, hi => by
    simp only [rem] at h
    by_cases hn : i = n
    · subst hn
      cases hg : g i with
      | true => rfl
      | false => rw [hg] at h; simp at h
    · exact rem_zero n g (by omega) i (by omega)
theorem rem_of_all : ∀ (n : Nat) (g : Nat → Bool), (∀ i, i < n → g i = true) → rem n g = 0
  | 0, _, _ => rfl
  | n + 1, g, h => by
    simp only [rem]
    rw [rem_of_all n g fun i hi => h i (by omega), h n (by omega)]
    rfl
theorem rem_le : ∀ (n : Nat) (g : Nat → Bool), rem n g ≤ n
  | 0, _ => Nat.le_refl _
  | n + 1, g => by
    simp only [rem]
    have := rem_le n g
    split <;> omega
theorem sumTo_congr : ∀ (n : Nat) (f f' : Nat → Nat), (∀ i, i < n → f i = f' i) → sumTo n f = sumTo n f'
  | 0, _, _, _ => rfl
  | n + 1, f, f', h => by
    simp only [sumTo]
    rw [sumTo_congr n f f' fun i hi => h i (by omega), h n (by omega)]
theorem sumTo_le : ∀ (n : Nat) (f : Nat → Nat) (c : Nat), (∀ i, i < n → f i ≤ c) → sumTo n f ≤ n * c
  | 0, _, _, _ => by simp [sumTo]
  | n + 1, f, c, h => by
    simp only [sumTo]
    have h1 := sumTo_le n f c fun i hi => h i (by omega)
    have h2 := h n (by omega)
    rw [Nat.add_mul]; omega
theorem free_congr {D D' : Nat → Nat → Bool} {n : Nat} (g g' : Nat → Bool) (i : Nat) (hi : i < n) (hD : ∀ a b, a < b → b < n → D a b = D' a b) (h : ∀ i, i < n → g i = g' i) : free D g i = free D' g' i := by
  unfold free
  rw [Bool.eq_iff_iff]
  simp only [List.all_eq_true, List.mem_range]
  constructor
  · intro k j hj; rw [← h j (by omega), ← hD j i hj hi]; exact k j hj
  · intro k j hj; rw [h j (by omega), hD j i hj hi]; exact k j hj
theorem cnt_congr {D D' : Nat → Nat → Bool} {n : Nat} (hD : ∀ a b, a < b → b < n → D a b = D' a b) : ∀ (k : Nat) (g g' : Nat → Bool), (∀ i, i < n → g i = g' i) → cnt D n k g = cnt D' n k g'
  | 0, _, _, _ => rfl
  | k + 1, g, g', h => by
    simp only [cnt]
    refine sumTo_congr _ _ _ fun i hi => ?_
    rw [h i hi, free_congr g g' i hi hD h, cnt_congr hD k (with1 g i) (with1 g' i) fun j hj => by simp only [with1]; rw [h j hj]]
theorem cnt_le (D : Nat → Nat → Bool) (n : Nat) : ∀ (k : Nat) (g : Nat → Bool), cnt D n k g ≤ n ^ k
  | 0, _ => Nat.le_refl _
  | k + 1, g => by
    simp only [cnt]
    rw [Nat.pow_succ, Nat.mul_comm]
    refine sumTo_le _ _ _ fun i _ => ?_
    split
    · exact cnt_le D n k _
    · exact Nat.zero_le _
theorem pow_12 {n k : Nat} (hn : n ≤ 12) (hk : k ≤ 12) : n ^ k ≤ 8916100448256 := by
  have h1 : n ^ k ≤ 12 ^ k := Nat.pow_le_pow_left hn k
  have h2 : 12 ^ k ≤ 12 ^ 12 := Nat.pow_le_pow_right (by decide) hk
  have h3 : 12 ^ 12 = 8916100448256 := by decide
  omega
theorem term_le (D : Nat → Nat → Bool) {n k : Nat} (g : Nat → Bool) (hn : n ≤ 12) (hk : k ≤ 12) (i : Nat) : (if !g i && free D g i then cnt D n k (with1 g i) else 0) ≤ 8916100448256 := by
  split
  · exact Nat.le_trans (cnt_le D n k _) (pow_12 hn hk)
  · exact Nat.zero_le _
theorem part_le (D : Nat → Nat → Bool) {n k : Nat} (g : Nat → Bool) (hn : n ≤ 12) (hk : k ≤ 12) (i : Nat) (hi : i ≤ 12) : sumTo i (fun i => if !g i && free D g i then cnt D n k (with1 g i) else 0) ≤ 106993205379072 := by
  have h1 := sumTo_le i (fun i => if !g i && free D g i then cnt D n k (with1 g i) else 0) 8916100448256 fun i _ => term_le D g hn hk i
  have h2 : i * 8916100448256 ≤ 12 * 8916100448256 := Nat.mul_le_mul_right _ hi
  omega

/-- Gone, by a number's bits. -/
def gone (m : Nat) : Nat → Bool := fun i => m.testBit i
theorem gone_or (m i : Nat) : gone (m ||| 2 ^ i) = with1 (gone m) i := by
  funext j
  simp only [gone, with1, Nat.testBit_or, Nat.testBit_two_pow]
  rw [Bool.or_comm]
  congr 1
  rw [Bool.eq_iff_iff]
  simp only [decide_eq_true_eq, beq_iff_eq]
  exact eq_comm
/-- Which before i are behind it. -/
def behind (D : Nat → Nat → Bool) (i : Nat) : Nat → Nat
  | 0 => 0
  | j + 1 => if D j i then behind D i j ||| 2 ^ j else behind D i j
theorem behind_bit (D : Nat → Nat → Bool) (i : Nat) : ∀ (k j : Nat), (behind D i k).testBit j = (decide (j < k) && D j i)
  | 0, j => by simp [behind]
  | k + 1, j => by
    unfold behind
    by_cases hj : j = k
    · subst hj
      cases h : D j i
      · simp [behind_bit D i j j]
      · simp
    · have h1 : decide (j < k + 1) = decide (j < k) := by
        rw [decide_eq_decide]; omega
      rw [h1]
      cases h : D k i
      · simp only [Bool.false_eq_true, if_false]; exact behind_bit D i k j
      · simp only [if_true]
        rw [Nat.testBit_or, behind_bit D i k j, Nat.testBit_two_pow]
        have : decide (k = j) = false := by simp; omega
        rw [this, Bool.or_false]
theorem behind_lt (D : Nat → Nat → Bool) (i n : Nat) : ∀ k, k ≤ n → behind D i k < 2 ^ n
  | 0, _ => Nat.two_pow_pos n
  | k + 1, h => by
    unfold behind
    split
    · exact Nat.or_lt_two_pow (behind_lt D i n k (by omega)) (Nat.pow_lt_pow_right (by decide) (by omega))
    · exact behind_lt D i n k (by omega)
theorem behind_63 (D : Nat → Nat → Bool) {i j : Nat} (h : j ≤ 12) : behind D i j < 2 ^ 63 :=
  Nat.lt_of_lt_of_le (behind_lt D i 12 j h) (Nat.pow_le_pow_right (by decide) (by decide))
theorem full_of_rem {n m : Nat} (hm : m < 2 ^ n) (h : rem n (gone m) = 0) : m = 2 ^ n - 1 := by
  apply Nat.eq_of_testBit_eq
  intro i
  rw [Nat.testBit_two_pow_sub_one]
  by_cases hi : i < n
  · rw [decide_eq_true hi]; exact rem_zero n _ h i hi
  · rw [decide_eq_false hi]
    exact Nat.testBit_lt_two_pow (Nat.lt_of_lt_of_le hm (Nat.pow_le_pow_right (by decide) (by omega)))
theorem rem_none : ∀ (n : Nat), rem n (gone 0) = n
  | 0 => rfl
  | n + 1 => by
    simp only [rem]
    rw [rem_none n]
    simp [gone]
theorem rem_full (n : Nat) : rem n (gone (2 ^ n - 1)) = 0 :=
  rem_of_all _ _ fun i hi => by simp [gone, hi]

/-- What is counted from done on. -/
def val (D : Nat → Nat → Bool) (n m : Nat) : Nat := cnt D n (rem n (gone m)) (gone m)

/-! Numbers' bits, as Go asks for them. -/
theorem wrap_64 (x : Int) : wrap64 x = IntKind.i64.wrap x := by rw [IntKind.wrap_i64]; unfold wrap64; rfl
theorem wraps_i64 (n : Int) (h0 : 0 ≤ n) (h1 : n < 2 ^ 63) : IntKind.i64.wrap n = n := by rw [IntKind.wrap_i64]; omega
theorem and_nat (a b : Nat) (ha : a < 2 ^ 63) (hb : b < 2 ^ 63) : Go.bits .and .i64 (a : Int) (b : Int) = ((a &&& b : Nat) : Int) := (bits_nat .i64 63 (by decide) wraps_i64 a b ha hb).1
theorem or_nat (a b : Nat) (ha : a < 2 ^ 63) (hb : b < 2 ^ 63) : Go.bits .or .i64 (a : Int) (b : Int) = ((a ||| b : Nat) : Int) := (bits_nat .i64 63 (by decide) wraps_i64 a b ha hb).2
theorem gone_asked (m j : Nat) (hm : m < 2 ^ 63) : (Go.bits .and .i64 ((m : Int) / 2 ^ j) 1 = 0) ↔ gone m j = false := by
  have h1 : ((m : Int) / 2 ^ j) = ((m / 2 ^ j : Nat) : Int) := by simp
  have h2 : m / 2 ^ j < 2 ^ 63 := Nat.lt_of_le_of_lt (Nat.div_le_self _ _) hm
  rw [h1, show (1 : Int) = ((1 : Nat) : Int) from rfl, and_nat _ _ h2 (by decide), gone, Nat.testBit, Nat.shiftRight_eq_div_pow, Nat.and_comm]
  simp only [bne_eq_false_iff_eq]
  omega
theorem andNot_zero (a m : Nat) (ha : a < 2 ^ 63) : (Go.bits .andNot .i64 (a : Int) (m : Int) = 0) ↔ ∀ i, a.testBit i = true → i < 64 → m.testBit i = true := by
  have h0 : Go.bits .andNot .i64 (a : Int) (m : Int) = IntKind.i64.wrap ((BitVec.ofNat 64 a &&& ~~~ (BitVec.ofNat 64 m)).toNat : Int) := by
    simp only [Go.bits, BitVec.ofInt_natCast, IntKind.bits]
    rfl
  have h1 : ∀ X : BitVec 64, IntKind.i64.wrap (X.toNat : Int) = 0 ↔ X = 0#64 := by
    intro X
    rw [IntKind.wrap_i64]
    have hlt := X.isLt
    constructor
    · intro h; apply BitVec.eq_of_toNat_eq; simp; omega
    · intro h; subst h; simp
  have hbit : ∀ x i : Nat, i < 64 → (BitVec.ofNat 64 x).getLsbD i = x.testBit i := fun x i hi => by rw [BitVec.getLsbD_ofNat]; simp [hi]
  rw [h0, h1]
  constructor
  · intro h i hi hlt
    have := congrArg (fun X => X.getLsbD i) h
    simp only [BitVec.getLsbD_and, BitVec.getLsbD_not, hbit _ _ hlt, hi, hlt, decide_true, Bool.true_and, Nat.zero_testBit, Bool.not_eq_false'] at this
    exact this
  · intro h
    apply BitVec.eq_of_getLsbD_eq
    intro i hi
    simp only [BitVec.getLsbD_and, BitVec.getLsbD_not, hbit _ _ hi, hi, decide_true, Bool.true_and, Nat.zero_testBit]
    cases hb : a.testBit i with
    | false => rfl
    | true => rw [h i hb hi]; rfl
theorem free_asked (D : Nat → Nat → Bool) (m j n : Nat) (hj : j < n) (hn : n ≤ 12) : (Go.bits .andNot .i64 (behind D j j : Int) (m : Int) == 0) = free D (gone m) j := by
  have hb : behind D j j < 2 ^ 63 := Nat.lt_of_lt_of_le (behind_lt D j 12 j (by omega)) (by decide)
  rw [Bool.eq_iff_iff, beq_iff_eq, andNot_zero _ _ hb, free]
  simp only [List.all_eq_true, List.mem_range, behind_bit, gone, Bool.and_eq_true, decide_eq_true_eq, Bool.or_eq_true, Bool.not_eq_true', and_imp]
  constructor
  · intro h i hi
    cases hD : D i j with
    | false => exact .inr rfl
    | true => exact .inl (h i hi hD (by omega))
  · intro h i hi hD _
    rcases h i hi with h | h
    · exact h
    · rw [hD] at h; cases h
theorem full_key (n : Nat) (hn : n ≤ 12) : wrap64 (wrap64 (2 ^ n) - 1) = ((2 ^ n - 1 : Nat) : Int) := by
  have h1 : 2 ^ n < 2 ^ 63 := Nat.pow_lt_pow_right (by decide) (by omega)
  have h2 : ((2 : Int) ^ n) = ((2 ^ n : Nat) : Int) := by simp
  have h3 : 0 < 2 ^ n := Nat.two_pow_pos n
  rw [h2]
  generalize 2 ^ n = x at *
  have e1 : wrap64 (x : Int) = x := by rw [wrap_64, wraps_i64 _ (by omega) (by omega)]
  rw [e1, wrap_64, wraps_i64 _ (by omega) (by omega)]
  omega
theorem pow_lt_63 {n m : Nat} (h : m < 2 ^ n) (hn : n ≤ 12) : m < 2 ^ 63 := Nat.lt_of_lt_of_le h (Nat.pow_le_pow_right (by decide) (by omega))
end Go.Proofs.Ytikkeefhhhfmmaa
