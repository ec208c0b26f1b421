/-
  LAW EmcyRegister: the walk.
-/
import Derived.Test.YtlhbgikgaoeciaaEmcK
import Derived.Test.YtlhbgikgaoeciaaOpen
import Derived.Deep.RegionHeld3
set_option linter.unusedSimpArgs false
set_option linter.unusedVariables false
namespace Go.Proofs.Ytlhbgikgaoeciaa
open Go.RowKit
attribute [local go_sem] Oper.semAt_some

/-! The plain law: or of bits. -/
theorem bitC_b (c : Int) : 0 ≤ bitC c ∧ bitC c < 256 := by
  unfold bitC
  (repeat' split) <;> omega
theorem or_nat {a b : Nat} (ha : a < 256) (hb : b < 256) : bits .or .i64 (a : Int) (b : Int) = ((a ||| b : Nat) : Int) ∧ (a ||| b) < 256 :=
  ⟨(bits_nat .i64 8 (by decide) (fun n h0 h1 => IntWalk.i64_in _ (by omega)) a b ha hb).2, Nat.or_lt_two_pow (n := 8) ha hb⟩
theorem and_nat {a b : Nat} (ha : a < 256) (hb : b < 256) : bits .and .i64 (a : Int) (b : Int) = ((a &&& b : Nat) : Int) :=
  (bits_nat .i64 8 (by decide) (fun n h0 h1 => IntWalk.i64_in _ (by omega)) a b ha hb).1
theorem regC_snoc (fs : List (Int × Int)) (x : Int × Int) : regC (fs ++ [x]) = bits .or .i64 (regC fs) (bitC x.1) := by
  unfold regC; rw [List.foldl_append]; rfl
theorem regC_from (fs : List (Int × Int)) : ∀ n : Nat, n < 256 → ∃ m : Nat, fs.foldl (fun n x => bits .or .i64 n (bitC x.1)) (n : Int) = (m : Int) ∧ m < 256 := by
  induction fs with
  | nil => intro n hn; exact ⟨n, rfl, hn⟩
  | cons x fs ih =>
    intro n hn
    have hb := bitC_b x.1
    obtain ⟨m, hm⟩ : ∃ m : Nat, bitC x.1 = (m : Int) := ⟨(bitC x.1).toNat, by omega⟩
    have h := or_nat hn (show m < 256 by omega)
    rw [List.foldl_cons, hm, h.1]
    exact ih _ h.2
theorem regC_nat (fs : List (Int × Int)) : ∃ n : Nat, regC fs = (n : Int) ∧ n < 256 := regC_from fs 0 (by omega)
theorem or_zero {a b : Nat} (h : a ||| b = 0) : a = 0 ∧ b = 0 := by
  constructor
  · apply Nat.eq_of_testBit_eq; intro i
    have := congrArg (fun n => n.testBit i) h
    simp at this
    simp [this.1]
  · apply Nat.eq_of_testBit_eq; intro i
    have := congrArg (fun n => n.testBit i) h
    simp at this
    simp [this.2]
theorem regC_zero {fs : List (Int × Int)} (h : ∀ p ∈ fs, bitC p.1 ≠ 0) : regC fs = 0 ↔ fs = [] := by
  constructor
  · intro hz
    rcases List.eq_nil_or_concat fs with rfl | ⟨l, x, rfl⟩
    · rfl
    · exfalso
      rw [List.concat_eq_append] at hz h
      obtain ⟨n, hn, hl⟩ := regC_nat l
      have hb := bitC_b x.1
      obtain ⟨m, hm⟩ : ∃ m : Nat, bitC x.1 = (m : Int) := ⟨(bitC x.1).toNat, by omega⟩
      rw [regC_snoc, hn, hm, (or_nat hl (show m < 256 by omega)).1] at hz
      have := or_zero (show n ||| m = 0 by omega)
      exact h x (by simp) (by rw [hm, this.2]; rfl)
  · rintro rfl; rfl
theorem regC_more (fs : List (Int × Int)) (x : Int × Int) : bits .and .i64 (regC (fs ++ [x])) (regC fs) = regC fs := by
  obtain ⟨n, hn, hl⟩ := regC_nat fs
  have hb := bitC_b x.1
  obtain ⟨m, hm⟩ : ∃ m : Nat, bitC x.1 = (m : Int) := ⟨(bitC x.1).toNat, by omega⟩
  have h := or_nat hl (show m < 256 by omega)
  rw [regC_snoc, hn, hm, h.1, and_nat h.2 hl]
  congr 1
  apply Nat.eq_of_testBit_eq
  intro i
  rw [Nat.testBit_and, Nat.testBit_or]
  cases n.testBit i <;> simp

/-- Between the operations. -/
def RegS (w : World) (B : Nat) (av hv : Value) (fs : List (Int × Int)) (hs : List Int) (wr : World) : Prop :=
  Emc wr B 129 av hv fs hs ∧ (∀ p ∈ fs, bitC p.1 ≠ 0) ∧ fs.length ≤ 64 ∧ hs.length ≤ 4 ∧ Below w.heap.size w wr ∧ w.heap.size ≤ B ∧ (∀ j, av.ownBlock = some j → w.heap.size ≤ j)
def RegI (w : World) (B : Nat) (wr : World) : Prop := ∃ av hv fs hs, RegS w B av hv fs hs wr
theorem RegS.below {w wr w' : World} {B : Nat} {av hv : Value} {fs : List (Int × Int)} {hs : List Int} (h : RegS w B av hv fs hs wr) (hb : Below wr.heap.size wr w') : RegS w B av hv fs hs w' := by
  obtain ⟨h1, h2, h3, h4, h5, h6⟩ := h
  exact ⟨h1.below hb, h2, h3, h4, h5.trans (hb.mono h5.size), h6⟩
theorem RegS.lo {w wr : World} {B : Nat} {av hv : Value} {fs : List (Int × Int)} {hs : List Int} (h : RegS w B av hv fs hs wr) : ∀ j, j < w.heap.size → ¬ (j = B ∨ av.ownBlock = some j) := fun j hj hh => by
  rcases hh with e | e
  · have := h.2.2.2.2.2.1; omega
  · have := h.2.2.2.2.2.2 j e; omega

theorem raise_reg {w wr : World} {B : Nat} {av hv : Value} {fs : List (Int × Int)} {hs : List Int} (h : RegS w B av hv fs hs wr) (c i : Int) (hk : rsOk fs c i) :
    Calls Try.prog 8 #[.pointer (some ⟨B, 0, none⟩), .int .i64 c, .int .i64 i] wr fun e w' => ∃ g av' hv' hs', e = .returned (.slice (some ⟨g, 0, none⟩) 1 1) ∧ RegS w B av' hv' (fs ++ [(c, i)]) hs' w' := by
  have hc := bitC_pos hk.1
  obtain ⟨x, rfl⟩ : ∃ x : Nat, c = (x : Int) := ⟨c.toNat, by omega⟩
  obtain ⟨y, rfl⟩ : ∃ y : Nat, i = (y : Int) := ⟨i.toNat, by have := hk.2.1; omega⟩
  refine (raise_yes B 129 av hv fs hs x y wr h.1 (by omega) hk h.2.2.2.1 (by have := h.2.2.1; omega)).mono ?_
  rintro e w' ⟨g, av', hv', rfl, hg, hF, hE, hU, ha, hh⟩
  refine ⟨g, av', hv', _, rfl, hE, fun p hp => ?_, ?_, by simp; omega, h.2.2.2.2.1.trans (hU.toBelow h.2.2.2.2.1.size h.lo), h.2.2.2.2.2.1, fun j hj => ?_⟩
  · rcases List.mem_append.1 hp with hp | hp
    · exact h.2.1 p hp
    · simp at hp; subst hp; exact hk.1
  · have h1 := h.2.2.1
    have h2 := hk.2.2.2
    simp; omega
  · rcases ha j hj with e | e
    · exact h.2.2.2.2.2.2 j e
    · have := h.2.2.2.2.1.size; omega
theorem raise_reg_no {w wr : World} {B : Nat} {av hv : Value} {fs : List (Int × Int)} {hs : List Int} (h : RegS w B av hv fs hs wr) (c i : Int) (hk : ¬ rsOk fs c i) :
    Calls Try.prog 8 #[.pointer (some ⟨B, 0, none⟩), .int .i64 c, .int .i64 i] wr fun e w' => e = .returned (.slice none 0 0) ∧ RegS w B av hv fs hs w' := by
  refine (raise_no B 129 av hv fs hs c i wr h.1 (by omega) hk).mono ?_
  rintro e w' ⟨rfl, hb⟩
  exact ⟨rfl, h.below hb⟩
theorem raise_regI {w wr : World} {B : Nat} (h : RegI w B wr) (c i : Int) :
    Calls Try.prog 8 #[.pointer (some ⟨B, 0, none⟩), .int .i64 c, .int .i64 i] wr fun e w' => ∃ v, e = .returned v ∧ RegI w B w' := by
  obtain ⟨av, hv, fs, hs, h⟩ := h
  by_cases hk : rsOk fs c i
  · refine (raise_reg h c i hk).mono ?_
    rintro e w' ⟨g, av', hv', hs', rfl, h'⟩
    exact ⟨_, rfl, _, _, _, _, h'⟩
  · refine (raise_reg_no h c i hk).mono ?_
    rintro e w' ⟨rfl, h'⟩
    exact ⟨_, rfl, _, _, _, _, h'⟩
theorem clear_reg {w wr : World} {B : Nat} {av hv : Value} {fs : List (Int × Int)} {hs : List Int} (h : RegS w B av hv fs hs wr) (c i : Int) (hk : (c, i) ∈ fs) :
    Calls Try.prog 9 #[.pointer (some ⟨B, 0, none⟩), .int .i64 c, .int .i64 i] wr fun e w' => ∃ g av', e = .returned (.slice (some ⟨g, 0, none⟩) 1 1) ∧ RegS w B av' hv (fs.eraseIdx (fs.idxOf (c, i))) hs w' := by
  refine (clear_yes B 129 av hv fs hs c i wr h.1 hk (by have := h.2.2.1; omega)).mono ?_
  rintro e w' ⟨g, av', rfl, hg, hF, hE, hU, ha⟩
  refine ⟨g, av', rfl, hE, fun p hp => h.2.1 p (List.mem_of_mem_eraseIdx hp), ?_, h.2.2.2.1, h.2.2.2.2.1.trans (hU.toBelow h.2.2.2.2.1.size h.lo), h.2.2.2.2.2.1, fun j hj => ?_⟩
  · have h1 := h.2.2.1
    have h2 := List.length_eraseIdx_le fs (fs.idxOf (c, i))
    omega
  · rcases ha j hj with e | e
    · exact h.2.2.2.2.2.2 j e
    · have := h.2.2.2.2.1.size; omega
theorem clear_reg_no {w wr : World} {B : Nat} {av hv : Value} {fs : List (Int × Int)} {hs : List Int} (h : RegS w B av hv fs hs wr) (c i : Int) (hk : (c, i) ∉ fs) :
    Calls Try.prog 9 #[.pointer (some ⟨B, 0, none⟩), .int .i64 c, .int .i64 i] wr fun e w' => e = .returned (.slice none 0 0) ∧ RegS w B av hv fs hs w' := by
  refine (clear_no B 129 av hv fs hs c i wr h.1 hk).mono ?_
  rintro e w' ⟨rfl, hb⟩
  exact ⟨rfl, h.below hb⟩
theorem clear_regI {w wr : World} {B : Nat} (h : RegI w B wr) (c i : Int) :
    Calls Try.prog 9 #[.pointer (some ⟨B, 0, none⟩), .int .i64 c, .int .i64 i] wr fun e w' => ∃ v, e = .returned v ∧ RegI w B w' := by
  obtain ⟨av, hv, fs, hs, h⟩ := h
  by_cases hk : (c, i) ∈ fs
  · refine (clear_reg h c i hk).mono ?_
    rintro e w' ⟨g, av', rfl, h'⟩
    exact ⟨_, rfl, _, _, _, _, h'⟩
  · refine (clear_reg_no h c i hk).mono ?_
    rintro e w' ⟨rfl, h'⟩
    exact ⟨_, rfl, _, _, _, _, h'⟩
theorem erase_last {fs : List (Int × Int)} {x : Int × Int} (h : x ∉ fs) : (fs ++ [x]).eraseIdx ((fs ++ [x]).idxOf x) = fs := by
  have : (fs ++ [x]).idxOf x = fs.length := idx_found (fun i hi e => by
    rw [List.getElem?_append_left hi] at e
    exact h (List.mem_of_getElem? e)) (by simp)
  rw [this, List.eraseIdx_append_of_length_le (Nat.le_refl _)]
  simp
end Go.Proofs.Ytlhbgikgaoeciaa
