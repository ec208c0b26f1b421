/-
  More of the plain law: the sum behind a text leads to 0; turned bits.
-/
import Derived.Test.YtgbjdejbldifcaaCrc
set_option linter.unusedSimpArgs false
set_option linter.unusedVariables false
namespace Go.Proofs.Ytgbjdejbldifcaa
namespace Crc

theorem num_get : ∀ (l : List Bool) (i : Nat), i < 16 → (num l).getLsbD i = l.getD (15 - i) false := by
  intro l
  induction l with
  | nil => intro i hi; simp [num]
  | cons b l ih =>
    intro i hi
    by_cases h : i = 15
    · subst h
      simp [num, BitVec.getLsbD_shiftLeft, BitVec.getLsbD_ushiftRight]
    · have := ih (i + 1) (by omega)
      have e : 15 - i = (15 - (i + 1)) + 1 := by omega
      rw [e]
      have e2 : 1 + i = i + 1 := by omega
      simp [num, BitVec.getLsbD_shiftLeft, BitVec.getLsbD_ushiftRight, e2, this]
      omega

theorem num_halves (s : BitVec 16) (hi lo : UInt8) (h1 : hi.toNat = s.toNat / 256) (h2 : lo.toNat = s.toNat % 256) : num (bitsOf hi ++ bitsOf lo) = s := by
  apply BitVec.eq_of_getLsbD_eq
  intro i hi16
  rw [num_get _ i hi16]
  have hlo : ∀ k, k < 8 → lo.toNat.testBit k = s.toNat.testBit k := by
    intro k hk
    rw [h2, show (256 : Nat) = 2 ^ 8 from rfl, Nat.testBit_mod_two_pow]
    simp [hk]
  have hhi : ∀ k, hi.toNat.testBit k = s.toNat.testBit (8 + k) := by
    intro k
    rw [h1, show (256 : Nat) = 2 ^ 8 from rfl, Nat.testBit_div_two_pow, Nat.add_comm]
  unfold bitsOf
  simp only [hhi]
  rw [hlo 0 (by omega), hlo 1 (by omega), hlo 2 (by omega), hlo 3 (by omega), hlo 4 (by omega), hlo 5 (by omega), hlo 6 (by omega), hlo 7 (by omega)]
  have : i = 0 ∨ i = 1 ∨ i = 2 ∨ i = 3 ∨ i = 4 ∨ i = 5 ∨ i = 6 ∨ i = 7 ∨ i = 8 ∨ i = 9 ∨ i = 10 ∨ i = 11 ∨ i = 12 ∨ i = 13 ∨ i = 14 ∨ i = 15 := by omega
  rcases this with rfl | rfl | rfl | rfl | rfl | rfl | rfl | rfl | rfl | rfl | rfl | rfl | rfl | rfl | rfl | rfl <;> rfl

theorem on_whole (l : List UInt8) (hi lo : UInt8) (h1 : hi.toNat = (on 0#16 l).toNat / 256) (h2 : lo.toNat = (on 0#16 l).toNat % 256) : on 0#16 (l ++ [hi, lo]) = 0#16 := by
  rw [on_append]
  have e : on (on 0#16 l) [hi, lo] = fold (on 0#16 l) (bitsOf hi ++ bitsOf lo) := by simp [on, allBits]
  rw [e, fold_num _ _ (by simp [bitsOf])]
  exact (num_halves _ _ _ h1 h2).symm

/-! turned bits -/

/-- Bit j of a text (the highest of a byte first) turned. -/
def flip (l : List UInt8) (j : Nat) : List UInt8 := l.modify (j / 8) (fun c => c ^^^ ((128 : UInt8) >>> UInt8.ofNat (j % 8)))

theorem flip_length (l : List UInt8) (j : Nat) : (flip l j).length = l.length := by simp [flip]

theorem bitsOf_length (c : UInt8) : (bitsOf c).length = 8 := rfl
theorem allBits_length : ∀ (l : List UInt8), (allBits l).length = 8 * l.length := by
  intro l
  induction l with
  | nil => rfl
  | cons c l ih => simp [allBits] at *; rw [bitsOf_length]; omega

theorem bitsOf_flip (c : UInt8) (r : Nat) (hr : r < 8) : bitsOf (c ^^^ ((128 : UInt8) >>> UInt8.ofNat r)) = (bitsOf c).modify r (fun b => !b) := by
  have : r = 0 ∨ r = 1 ∨ r = 2 ∨ r = 3 ∨ r = 4 ∨ r = 5 ∨ r = 6 ∨ r = 7 := by omega
  rcases this with rfl | rfl | rfl | rfl | rfl | rfl | rfl | rfl
  all_goals
    unfold bitsOf
    simp only [UInt8.toNat_xor, Nat.testBit_xor]
    generalize c.toNat.testBit 7 = b7
    generalize c.toNat.testBit 6 = b6
    generalize c.toNat.testBit 5 = b5
    generalize c.toNat.testBit 4 = b4
    generalize c.toNat.testBit 3 = b3
    generalize c.toNat.testBit 2 = b2
    generalize c.toNat.testBit 1 = b1
    generalize c.toNat.testBit 0 = b0
    simp [List.modify, Nat.testBit_eq_decide_div_mod_eq]

theorem modify_left {α : Type} (a b : List α) (j : Nat) (f : α → α) (h : j < a.length) : (a ++ b).modify j f = a.modify j f ++ b := by
  apply List.ext_getElem?
  intro k
  simp only [List.getElem?_modify, List.getElem?_append, List.length_modify]
  by_cases hk : k < a.length
  · simp [hk]
  · have : ¬ j = k := by omega
    simp [hk, this]

theorem modify_right {α : Type} (a b : List α) (j : Nat) (f : α → α) : (a ++ b).modify (a.length + j) f = a ++ b.modify j f := by
  apply List.ext_getElem?
  intro k
  simp only [List.getElem?_modify, List.getElem?_append]
  by_cases hk : k < a.length
  · simp [hk]; omega
  · simp only [hk, if_false]
    have : (a.length + j = k) = (j = k - a.length) := by simp; omega
    simp [this]

theorem allBits_flip : ∀ (l : List UInt8) (j : Nat), allBits (flip l j) = (allBits l).modify j (fun b => !b) := by
  intro l
  induction l with
  | nil => intro j; simp [flip, allBits]
  | cons c l ih =>
    intro j
    by_cases h : j < 8
    · have h0 : j / 8 = 0 := by omega
      have h1 : j % 8 = j := by omega
      simp only [flip, h0, h1, List.modify_zero_cons, allBits, List.flatMap_cons]
      rw [bitsOf_flip c j h]
      exact (modify_left _ _ j _ (by simpa [bitsOf_length] using h)).symm
    · have h0 : j / 8 = (j - 8) / 8 + 1 := by omega
      have h1 : j % 8 = (j - 8) % 8 := by omega
      have := ih (j - 8)
      simp only [flip, h0, h1, List.modify_succ_cons, allBits, List.flatMap_cons] at *
      rw [this]
      have e : j = (bitsOf c).length + (j - 8) := by rw [bitsOf_length]; omega
      rw [show (bitsOf c ++ List.flatMap bitsOf l).modify j (fun b => !b) = (bitsOf c ++ List.flatMap bitsOf l).modify ((bitsOf c).length + (j - 8)) (fun b => !b) from by rw [← e]]
      exact (modify_right _ _ _ _).symm

theorem modify_xor (l : List Bool) (j : Nat) : l.modify j (fun b => !b) = List.zipWith (· ^^ ·) l ((List.replicate l.length false).modify j (fun b => !b)) := by
  apply List.ext_getElem?
  intro k
  simp only [List.getElem?_modify, List.getElem?_zipWith, List.getElem?_replicate]
  by_cases hk : k < l.length
  · by_cases hj : j = k
    · subst hj; simp [hk]
    · simp [hk, hj]
  · simp [hk]

/-- The mask of the first m turns: bits k .. k + m - 1 of those that burst marks. -/
def mask (n k m : Nat) (f : Nat → Bool) : List Bool := (List.range n).map (fun i => decide (k ≤ i ∧ i < k + m) && f (i - k))

/-- Turning bit by bit. -/
def turn (l : List UInt8) (k : Nat) (f : Nat → Bool) : Nat → List UInt8
  | 0 => l
  | m + 1 => if k + m < 8 * l.length ∧ f m then flip (turn l k f m) (k + m) else turn l k f m

theorem turn_length (l : List UInt8) (k : Nat) (f : Nat → Bool) (m : Nat) : (turn l k f m).length = l.length := by
  induction m with
  | zero => rfl
  | succ m ih => simp only [turn]; split <;> simp [flip_length, ih]

theorem allBits_turn (l : List UInt8) (k : Nat) (f : Nat → Bool) (m : Nat) :
    allBits (turn l k f m) = List.zipWith (· ^^ ·) (allBits l) (mask (8 * l.length) k m f) := by
  induction m with
  | zero =>
    apply List.ext_getElem?
    intro i
    simp only [turn, mask, List.getElem?_zipWith, List.getElem?_map, List.getElem?_range']
    by_cases hi : i < (allBits l).length
    · have h2 : i < 8 * l.length := by rw [allBits_length] at hi; exact hi
      have : (decide (k ≤ i) && decide (i < k)) = false := by simp
      simp [hi, h2, this]
    · simp [hi]
  | succ m ih =>
    simp only [turn]
    apply List.ext_getElem?
    intro i
    by_cases hi : i < 8 * l.length
    · have h1 : i < (allBits l).length := by rw [allBits_length]; exact hi
      split
      · rename_i hc
        rw [allBits_flip, ih, List.getElem?_modify]
        simp only [List.getElem?_zipWith, mask, List.getElem?_map]
        by_cases hk : k + m = i
        · subst hk
          simp [hi, h1, hc.2]
        · have e : (decide (i < k + (m + 1))) = (decide (i < k + m)) := by rw [decide_eq_decide]; omega
          simp [hi, h1, hk, e]
      · rename_i hc
        rw [ih]
        simp only [List.getElem?_zipWith, mask, List.getElem?_map]
        by_cases hk : k + m = i
        · subst hk
          have hf : f m = false := by simpa [hi] using hc
          simp [hi, h1, hf]
        · have e : (decide (i < k + (m + 1))) = (decide (i < k + m)) := by rw [decide_eq_decide]; omega
          simp [hi, h1, e]
    · have h1 : (allBits (if k + m < 8 * l.length ∧ f m = true then flip (turn l k f m) (k + m) else turn l k f m)).length ≤ i := by
        rw [allBits_length]
        split <;> simp [flip_length, turn_length] <;> omega
      rw [List.getElem?_eq_none h1, List.getElem?_eq_none (by simp [allBits_length, mask]; omega)]

theorem mask_split (n k : Nat) (f : Nat → Bool) (hk : k ≤ n) : ∃ win tail, win.length ≤ 16 ∧ mask n k 16 f = List.replicate k false ++ (win ++ List.replicate tail false) ∧ (∀ i, i < 16 → (win.getD i false = (f i && decide (k + i < n)))) := by
  refine ⟨(List.range (min 16 (n - k))).map f, n - k - min 16 (n - k), by simp; omega, ?_, ?_⟩
  · apply List.ext_getElem?
    intro i
    simp only [mask, List.getElem?_map, List.getElem?_append, List.getElem?_replicate, List.length_replicate, List.length_map, List.length_range]
    by_cases hi : i < n
    · by_cases h1 : i < k
      · have : ¬ (k ≤ i ∧ i < k + 16) := by omega
        simp [hi, h1]; omega
      · by_cases h2 : i - k < min 16 (n - k)
        · have e : k ≤ i ∧ i < k + 16 := by omega
          simp [hi, h1, h2, e]
        · have e : ¬ (k ≤ i ∧ i < k + 16) := by omega
          have e2 : i - k - min 16 (n - k) < n - k - min 16 (n - k) := by omega
          simp [hi, h1, h2, e2]; omega
    · have h1 : ¬ i < k := by omega
      have h2 : ¬ i - k < min 16 (n - k) := by omega
      have h3 : ¬ i - k - min 16 (n - k) < n - k - min 16 (n - k) := by omega
      simp [hi, h1, h2, h3]
  · intro i hi
    by_cases h : k + i < n
    · have : i < min 16 (n - k) := by omega
      simp [List.getD, this, h]
    · have : ¬ i < min 16 (n - k) := by omega
      simp [List.getD, this, h]

theorem num_zero (l : List Bool) (hl : l.length ≤ 16) : (num l = 0#16 ↔ ∀ i, i < 16 → l.getD i false = false) := by
  constructor
  · intro h i hi
    have := num_get l (15 - i) (by omega)
    rw [h] at this
    rw [show 15 - (15 - i) = i from by omega] at this
    simpa using this.symm
  · intro h
    apply BitVec.eq_of_getLsbD_eq
    intro i hi
    rw [num_get l i hi, h _ (by omega)]
    simp

theorem zero_fold (k : Nat) : fold 0#16 (List.replicate k false) = 0#16 := (fold_zeros k 0#16).2 rfl

/-- A TURNED TEXT HAS ANOTHER SUM just if a bit was turned. -/
theorem on_turn (l : List UInt8) (k : Nat) (f : Nat → Bool) (hk : k ≤ 8 * l.length) :
    (on 0#16 (turn l k f 16) = on 0#16 l) ↔ ∀ i, i < 16 → ¬ (k + i < 8 * l.length ∧ f i = true) := by
  have h1 : on 0#16 (turn l k f 16) = on 0#16 l ^^^ fold 0#16 (mask (8 * l.length) k 16 f) := by
    unfold on
    rw [allBits_turn]
    have := fold_xor (allBits l) (mask (8 * l.length) k 16 f) 0#16 0#16 (by rw [allBits_length]; simp [mask])
    simpa using this
  obtain ⟨win, tail, hw, hm, hg⟩ := mask_split (8 * l.length) k f hk
  have h2 : on 0#16 (turn l k f 16) = on 0#16 l ↔ fold 0#16 (mask (8 * l.length) k 16 f) = 0#16 := by
    rw [h1]
    constructor
    · intro h
      have := congrArg (fun x => on 0#16 l ^^^ x) h
      simpa [← BitVec.xor_assoc] using this
    · intro h; rw [h]; simp
  rw [h2, hm, fold_append, zero_fold, fold_append, fold_zeros, fold_num _ _ hw]
  rw [eq_comm, num_zero _ hw]
  constructor
  · intro h i hi hc
    have := h i hi
    rw [hg i hi] at this
    simp [hc.1, hc.2] at this
  · intro h i hi
    rw [hg i hi]
    have := h i hi
    cases hf : f i
    · rfl
    · simp [hf] at this; simp; exact this
end Crc
end Go.Proofs.Ytgbjdejbldifcaa
