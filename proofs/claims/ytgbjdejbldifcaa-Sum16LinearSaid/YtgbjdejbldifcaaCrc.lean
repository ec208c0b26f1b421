/-
  The plain law of the 16-bit sum: no program in sight.
-/
import Derived.WalkKit
set_option linter.unusedSimpArgs false
set_option linter.unusedVariables false
namespace Go.Proofs.Ytgbjdejbldifcaa
namespace Crc

def step (r : BitVec 16) (b : Bool) : BitVec 16 := (r <<< 1) ^^^ (if (r.msb ^^ b) then 0x1021#16 else 0#16)
def fold (s : BitVec 16) (l : List Bool) : BitVec 16 := l.foldl step s
def bitsOf (c : UInt8) : List Bool := [c.toNat.testBit 7, c.toNat.testBit 6, c.toNat.testBit 5, c.toNat.testBit 4, c.toNat.testBit 3, c.toNat.testBit 2, c.toNat.testBit 1, c.toNat.testBit 0]
def allBits (l : List UInt8) : List Bool := l.flatMap bitsOf
def on (s : BitVec 16) (l : List UInt8) : BitVec 16 := fold s (allBits l)

theorem fold_append (s : BitVec 16) (a b : List Bool) : fold s (a ++ b) = fold (fold s a) b := by simp [fold]
theorem on_append (s : BitVec 16) (a b : List UInt8) : on s (a ++ b) = on (on s a) b := by simp [on, allBits, fold]
theorem on_nil (s : BitVec 16) : on s [] = s := rfl
theorem on_snoc (s : BitVec 16) (a : List UInt8) (c : UInt8) : on s (a ++ [c]) = fold (on s a) (bitsOf c) := by simp [on, allBits, fold]

theorem step_xor (r s : BitVec 16) (a b : Bool) : step (r ^^^ s) (a ^^ b) = step r a ^^^ step s b := by
  unfold step
  rw [BitVec.msb_xor]
  have hs : (r ^^^ s) <<< 1 = (r <<< 1) ^^^ (s <<< 1) := by
    apply BitVec.eq_of_getLsbD_eq; intro i hi; simp [BitVec.getLsbD_shiftLeft, hi]; cases (decide (i = 0)) <;> simp
  rw [hs]
  generalize r.msb = x; generalize s.msb = y; generalize r <<< 1 = u; generalize s <<< 1 = v
  cases x <;> cases y <;> cases a <;> cases b <;> simp <;> first | (ac_rfl; done) | (rw [show u ^^^ 4129#16 ^^^ (v ^^^ 4129#16) = (u ^^^ v) ^^^ (4129#16 ^^^ 4129#16) from by ac_rfl]; simp)

theorem fold_xor : ∀ (l m : List Bool) (r s : BitVec 16), l.length = m.length → fold (r ^^^ s) (List.zipWith (· ^^ ·) l m) = fold r l ^^^ fold s m := by
  intro l
  induction l with
  | nil => intro m r s h; cases m with | nil => rfl | cons _ _ => simp at h
  | cons a l ih =>
    intro m r s h
    cases m with
    | nil => simp at h
    | cons b m =>
      simp only [List.zipWith_cons_cons, fold, List.foldl_cons] at *
      rw [step_xor]; exact ih m _ _ (by simpa using h)

theorem step_low (s : BitVec 16) (b : Bool) : (step s b).getLsbD 0 = (s.msb ^^ b) := by
  unfold step
  cases (s.msb ^^ b) <;> simp

theorem step_inj (s t : BitVec 16) (b : Bool) (h : step s b = step t b) : s = t := by
  have h0 : (s.msb ^^ b) = (t.msb ^^ b) := by rw [← step_low, ← step_low, h]
  have hm : s.msb = t.msb := by cases hs : s.msb <;> cases ht : t.msb <;> cases b <;> simp_all
  unfold step at h
  rw [h0] at h
  have h1 : s <<< 1 = t <<< 1 := by
    have := congrArg (· ^^^ (if (t.msb ^^ b) then 0x1021#16 else 0#16)) h
    simpa [BitVec.xor_assoc] using this
  apply BitVec.eq_of_getLsbD_eq
  intro i hi
  by_cases h15 : i = 15
  · subst h15
    simpa [BitVec.msb_eq_getLsbD_last] using hm
  · have := congrArg (fun x => x.getLsbD (i + 1)) h1
    have h16 : i + 1 < 16 := by omega
    simp [BitVec.getLsbD_shiftLeft, h16] at this
    simpa [BitVec.getLsbD_eq_getElem, hi] using this

theorem fold_inj : ∀ (l : List Bool) (s t : BitVec 16), fold s l = fold t l → s = t := by
  intro l
  induction l with
  | nil => intro s t h; exact h
  | cons b l ih => intro s t h; exact step_inj _ _ b (ih _ _ h)

/-- The number of up to 16 bits, the first one highest. -/
def num : List Bool → BitVec 16
  | [] => 0
  | b :: l => (BitVec.ofBool b).zeroExtend 16 <<< 15 ||| (num l >>> 1)

theorem num_low : ∀ (l : List Bool) (i : Nat), i + l.length < 16 → (num l).getLsbD i = false := by
  intro l
  induction l with
  | nil => intro i _; simp [num]
  | cons b l ih =>
    intro i h
    simp only [List.length_cons] at h
    have := ih (i + 1) (by omega)
    simp [num, BitVec.getLsbD_shiftLeft, BitVec.getLsbD_ushiftRight, Nat.add_comm 1 i, this]
    omega

theorem num_step (s : BitVec 16) (b : Bool) (n : BitVec 16) (hn : n.getLsbD 0 = false) (h : s = (BitVec.ofBool b).zeroExtend 16 <<< 15 ||| (n >>> 1)) : step s b = n := by
  have hm : s.msb = b := by
    rw [h, BitVec.msb_eq_getLsbD_last]
    simp [BitVec.getLsbD_shiftLeft, BitVec.getLsbD_ushiftRight]
  unfold step
  rw [hm]
  simp only [Bool.xor_self, Bool.false_eq_true, if_false, BitVec.xor_zero]
  rw [h]
  apply BitVec.eq_of_getLsbD_eq
  intro i hi
  by_cases h0 : i = 0
  · subst h0; rw [hn]; simp
  · have e : 1 + (i - 1) = i := by omega
    have h15 : i - 1 < 15 := by omega
    simp [BitVec.getLsbD_shiftLeft, BitVec.getLsbD_ushiftRight, hi, h0, e, h15]

/-- THE KEY: at most 16 bits lead to 0 just from the state that they are. -/
theorem fold_num : ∀ (l : List Bool) (s : BitVec 16), l.length ≤ 16 → (fold s l = 0#16 ↔ s = num l) := by
  intro l
  induction l with
  | nil => intro s _; simp [fold, num]
  | cons b l ih =>
    intro s h
    simp only [List.length_cons] at h
    have e : fold s (b :: l) = fold (step s b) l := rfl
    rw [e, ih _ (by omega)]
    have hn := num_low l 0 (by omega)
    constructor
    · intro hst
      apply step_inj s _ b
      rw [hst]
      exact (num_step _ b _ hn rfl).symm
    · intro hs
      exact num_step s b _ hn hs

theorem fold_zeros : ∀ (n : Nat) (s : BitVec 16), (fold s (List.replicate n false) = 0#16 ↔ s = 0#16) := by
  intro n
  induction n with
  | zero => intro s; simp [fold]
  | succ n ih =>
    intro s
    rw [List.replicate_succ]
    have e : fold s (false :: List.replicate n false) = fold (step s false) (List.replicate n false) := rfl
    rw [e, ih]
    constructor
    · intro h; exact step_inj s _ false (h.trans rfl)
    · rintro rfl; rfl
theorem step_int (r : BitVec 16) (b : Bool) :
    bits .xor .u16 (IntKind.u16.wrap ((r.toNat : Int) * 2)) (bits .and .u16 4129 (IntKind.u16.wrap (-bits .xor .u16 ((r.toNat : Int) / 32768) (if b then 1 else 0)))) = ((step r b).toNat : Int) := by
  have h1 : ((r.toNat : Int) / 32768) = if r.msb then 1 else 0 := by
    have := r.isLt
    rw [BitVec.msb_eq_decide]
    by_cases h : 2 ^ (16 - 1) ≤ r.toNat
    · simp [h]; omega
    · simp [h]; omega
  have h2 : IntKind.u16.wrap ((r.toNat : Int) * 2) = ((r.toNat * 2 % 65536 : Nat) : Int) := by
    rw [IntKind.wrap_u16]; omega
  have h3 : bits .and .u16 4129 (IntKind.u16.wrap (-bits .xor .u16 (if r.msb then 1 else 0) (if b then 1 else 0))) = (((if (r.msb ^^ b) then 4129 else 0 : Nat)) : Int) := by
    cases r.msb <;> cases b <;> decide
  rw [h1, h2, h3]
  have hlt := r.isLt
  rw [u16_xor_nat _ _ (by omega) (by split <;> omega)]
  unfold step
  cases (r.msb ^^ b) <;> simp [BitVec.toNat_xor, BitVec.toNat_shiftLeft, Nat.shiftLeft_eq]
end Crc
end Go.Proofs.Ytgbjdejbldifcaa
