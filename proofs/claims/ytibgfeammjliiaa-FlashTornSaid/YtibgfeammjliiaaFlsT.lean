/-
  PLAIN: what a torn programming leaves, and what it is done again: bits of bytes.
-/
import Derived.Test.YtibgfeammjliiaaFlsX
set_option linter.unusedSimpArgs false
set_option linter.unusedVariables false
namespace Go.Proofs.Ytibgfeammjliiaa
open Go.RowKit

def bz (a : BitVec 8) : Int := (a.toNat : Int)
theorem bz_of {z : Int} (h : 0 ≤ z ∧ z < 256) : ∃ a, z = bz a := ⟨BitVec.ofNat 8 z.toNat, by unfold bz; rw [BitVec.toNat_ofNat]; omega⟩
theorem ofInt_bz (a : BitVec 8) : BitVec.ofInt 8 (bz a) = a := by unfold bz; rw [BitVec.ofInt_natCast, BitVec.ofNat_toNat]; simp
theorem wrap_bz (a : BitVec 8) : IntKind.u8.wrap (bz a) = bz a := by
  have : bz a < 256 := by unfold bz; have := a.isLt; omega
  have h0 : 0 ≤ bz a := by unfold bz; omega
  rw [IntKind.wrap_u8]; omega
theorem and_bz (a b : BitVec 8) : bits .and .u8 (bz a) (bz b) = bz (a &&& b) := by
  have := wrap_bz (a &&& b)
  show IntKind.u8.wrap (((BitVec.ofInt 8 (bz a) &&& BitVec.ofInt 8 (bz b)).toNat : Nat) : Int) = _
  rw [ofInt_bz, ofInt_bz]
  exact this
theorem or_bz (a b : BitVec 8) : bits .or .u8 (bz a) (bz b) = bz (a ||| b) := by
  have := wrap_bz (a ||| b)
  show IntKind.u8.wrap (((BitVec.ofInt 8 (bz a) ||| BitVec.ofInt 8 (bz b)).toNat : Nat) : Int) = _
  rw [ofInt_bz, ofInt_bz]
  exact this
theorem xor_bz (a b : BitVec 8) : bits .xor .u8 (bz a) (bz b) = bz (a ^^^ b) := by
  have := wrap_bz (a ^^^ b)
  show IntKind.u8.wrap (((BitVec.ofInt 8 (bz a) ^^^ BitVec.ofInt 8 (bz b)).toNat : Nat) : Int) = _
  rw [ofInt_bz, ofInt_bz]
  exact this
theorem not_bz (a b : BitVec 8) : bits .andNot .u8 (bz a) (bz b) = bz (a &&& ~~~b) := by
  have := wrap_bz (a &&& ~~~b)
  show IntKind.u8.wrap (((BitVec.ofInt 8 (bz a) &&& ~~~BitVec.ofInt 8 (bz b)).toNat : Nat) : Int) = _
  rw [ofInt_bz, ofInt_bz]
  exact this
theorem bz_zero {a : BitVec 8} (h : a = 0) : bz a = 0 := by subst h; rfl
theorem some_bz (z x : BitVec 8) (mask : Int) : ∃ nm, someZ (bz z) (bz x) mask = bz (z &&& (x ||| nm)) := by
  obtain ⟨mm, hm⟩ := bz_of (z := mask % 256) (by omega)
  have e : IntKind.u8.max = bz 255 := rfl
  unfold someZ
  rw [hm, e, xor_bz, or_bz, and_bz]
  exact ⟨_, rfl⟩

theorem rowAt_byte (l : List UInt8) (i : Nat) : 0 ≤ rowAt l i ∧ rowAt l i < 256 := by
  unfold rowAt
  split
  · unfold bits
    simp only []
    rw [IntKind.wrap_u8]
    omega
  · have := UInt8.toNat_lt ((l[i % l.length]?).getD 0)
    omega
theorem rowZ_byte (l : List UInt8) (n i : Nat) (z : Int) (h : (rowZ l n)[i]? = some z) : 0 ≤ z ∧ z < 256 := by
  unfold rowZ at h
  rw [List.getElem?_map] at h
  obtain ⟨j, _, rfl⟩ := Option.map_eq_some_iff.1 h
  exact rowAt_byte l j
theorem bytesI_byte (x : List UInt8) (i : Nat) (z : Int) (h : (bytesI x)[i]? = some z) : 0 ≤ z ∧ z < 256 := by
  unfold bytesI at h
  rw [List.getElem?_map] at h
  obtain ⟨j, _, rfl⟩ := Option.map_eq_some_iff.1 h
  have := UInt8.toNat_lt j
  omega

/-- What is seen of byte i. -/
structure TornAt (A xs Is Fu : List Int) (k m i : Nat) (zA y v : Int) : Prop where
  is : Is[i]? = some v
  full : Fu[i]? = some y
  inn : ∀ xv, k ≤ i → i < k + m → xs[i - k]? = some xv → bits .and .u8 zA xv = y
  out : ¬ (k ≤ i ∧ i < k + m) → y = zA
  less : bits .andNot .u8 v zA = 0
  more : bits .andNot .u8 y v = 0

theorem torn_at (A xs : List Int) (k m j : Nat) (x0 z0 mask : Int) (hA : ∀ (i : Nat) (z : Int), A[i]? = some z → 0 ≤ z ∧ z < 256) (hx : ∀ (i : Nat) (z : Int), xs[i]? = some z → 0 ≤ z ∧ z < 256) (hm : xs.length = m) (hk : k + m ≤ A.length) (hj : j < m)
    (hx0 : xs[j]? = some x0) (hz0 : A[k + j]? = some z0) (i : Nat) (zA : Int) (hi : A[i]? = some zA) :
    ∃ y v, TornAt A xs ((progZ A k xs j).set (k + j) (someZ z0 x0 mask)) (progZ ((progZ A k xs j).set (k + j) (someZ z0 x0 mask)) k xs m) k m i zA y v := by
  obtain ⟨Is, hIs⟩ : ∃ Is, (progZ A k xs j).set (k + j) (someZ z0 x0 mask) = Is := ⟨_, rfl⟩
  have hil : i < A.length := (List.getElem?_eq_some_iff.1 hi).1
  have hl : Is.length = A.length := by rw [← hIs, List.length_set, progZ_length]
  have hF := progZ_get Is k xs m i (by rw [hl]; exact hk)
  have hI : Is[i]? = if k + j = i then some (someZ z0 x0 mask) else (progZ A k xs j)[i]? := by
    rw [← hIs, List.getElem?_set, progZ_length]
    by_cases e : k + j = i
    · rw [if_pos e, if_pos e, if_pos (by omega)]
    · rw [if_neg e, if_neg e]
  rw [progZ_get A k xs j i (by omega)] at hI
  rw [hIs]
  obtain ⟨a, rfl⟩ := bz_of (hA i zA hi)
  by_cases hin : k ≤ i ∧ i < k + m
  · rw [if_pos hin] at hF
    obtain ⟨xv, hxv⟩ : ∃ xv, xs[i - k]? = some xv := ⟨_, List.getElem?_eq_getElem (by omega)⟩
    obtain ⟨b, rfl⟩ := bz_of (hx _ _ hxv)
    rw [hxv] at hF hI
    rw [hi] at hI
    simp only [Option.getD_some] at hF hI
    have hIv : ∃ c : BitVec 8, Is[i]? = some (bz c) ∧ (c = a ∨ c = a &&& b ∨ ∃ nm, c = a &&& (b ||| nm)) := by
      by_cases e : k + j = i
      · rw [if_pos e] at hI
        have e1 : i - k = j := by omega
        rw [e1, hx0] at hxv
        rw [← e, hz0] at hi
        obtain rfl := Option.some.inj hxv
        obtain rfl := Option.some.inj hi
        obtain ⟨nm, hnm⟩ := some_bz a b mask
        rw [hnm] at hI
        exact ⟨_, hI, .inr (.inr ⟨nm, rfl⟩)⟩
      · rw [if_neg e] at hI
        by_cases h2 : k ≤ i ∧ i < k + j
        · rw [if_pos h2, and_bz] at hI
          exact ⟨_, hI, .inr (.inl rfl)⟩
        · rw [if_neg h2] at hI
          exact ⟨_, hI, .inl rfl⟩
    obtain ⟨c, hc, hcs⟩ := hIv
    rw [hc] at hF
    simp only [Option.getD_some] at hF
    have hcb : c &&& b = a &&& b := by
      rcases hcs with rfl | rfl | ⟨nm, rfl⟩
      · rfl
      · rw [BitVec.and_assoc, BitVec.and_self]
      · ext t ht; simp; cases a[t] <;> cases b[t] <;> cases nm[t] <;> simp
    rw [and_bz, hcb] at hF
    refine ⟨_, _, hc, hF, ?_, fun h => absurd hin h, ?_, ?_⟩
    · intro xv' _ _ hxv'
      rw [hxv] at hxv'
      obtain rfl := Option.some.inj hxv'
      exact and_bz a b
    · rw [not_bz]
      refine bz_zero ?_
      rcases hcs with rfl | rfl | ⟨nm, rfl⟩
      · ext t ht; simp
      · ext t ht; simp; cases a[t] <;> cases b[t] <;> simp
      · ext t ht; simp; cases a[t] <;> cases b[t] <;> cases nm[t] <;> simp
    · rw [not_bz]
      refine bz_zero ?_
      rcases hcs with rfl | rfl | ⟨nm, rfl⟩
      · ext t ht; simp; cases c[t] <;> cases b[t] <;> simp
      · ext t ht; simp
      · ext t ht; simp; cases a[t] <;> cases b[t] <;> cases nm[t] <;> simp
  · rw [if_neg hin] at hF
    rw [if_neg (by omega), if_neg (by omega), hi] at hI
    rw [hI] at hF
    refine ⟨_, _, hI, hF, fun _ h1 h2 => absurd ⟨h1, h2⟩ hin, fun _ => rfl, ?_, ?_⟩
    · rw [not_bz]
      refine bz_zero ?_
      ext t ht; simp
    · rw [not_bz]
      refine bz_zero ?_
      ext t ht; simp
end Go.Proofs.Ytibgfeammjliiaa
