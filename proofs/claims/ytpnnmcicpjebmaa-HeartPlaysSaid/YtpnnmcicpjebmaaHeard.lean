/-
  CONTRACTS of nmt's Heard and the document's; two frames that are alike.
-/
import Derived.Test.YtpnnmcicpjebmaaBeat
import Derived.Test.YtpnnmcicpjebmaaCmd
import Derived.Test.YtpnnmcicpjebmaaLent
set_option linter.unusedSimpArgs false
set_option linter.unusedVariables false
namespace Go.Proofs.Ytpnnmcicpjebmaa
open Go.RowKit
attribute [local go_sem] Oper.semAt_some

def heOk (id : Int) (rem : Bool) (l : List UInt8) : Prop := (1793 ≤ id ∧ id ≤ 1919) ∧ rem = false ∧ l.length = 1 ∧ knS ((l.getD 0 0).toNat : Int)
instance (id : Int) (rem : Bool) (l : List UInt8) : Decidable (heOk id rem l) := by unfold heOk; infer_instance
def heN (id : Int) (rem : Bool) (l : List UInt8) : Int := if heOk id rem l then id - 1792 else 0
def heS (id : Int) (rem : Bool) (l : List UInt8) : Int := if heOk id rem l then ((l.getD 0 0).toNat : Int) else 0

theorem of9 (id : Int) (h : 1793 ≤ id ∧ id ≤ 1919) : decide (named id) = true ∧ ofK id = 9 ∧ ofD id = id - 1792 := by
  have h1 : okN 9 0 (id - 1792) := by unfold okN; omega
  have h2 : idN 9 0 (id - 1792) = id := by rw [(idN9 _ (by omega)).1]; omega
  obtain ⟨a, b, c, d⟩ := named_of h1 h2
  exact ⟨decide_eq_true a, by unfold ofK; rw [if_pos a]; exact b, by unfold ofD; rw [if_pos a]; exact d⟩
theorem of9' (id : Int) (h : ¬ (1793 ≤ id ∧ id ≤ 1919)) : decide (named id) = false ∨ (ofK id != 9) = true := by
  by_cases c : named id
  · right
    rw [bne_iff_ne]
    unfold ofK
    rw [if_pos c]
    intro hk
    obtain ⟨c1, c2, c3⟩ := c
    rw [hk] at c2 c3
    have : gN id = 0 ∧ 1 ≤ gD id ∧ gD id ≤ 127 := by unfold okN at c2; omega
    rw [this.1, (idN9 _ this.2).1] at c3
    omega
  · exact .inl (decide_eq_false c)

theorem below_dn {B : Nat} {a w : World} (h : Below B a w) (n : Nat) : Below B a (w.drewN n) := ⟨h.os, h.tape, h.output, h.size, h.block⟩

theorem one_of {w : World} {a : Option Addr} {x : UInt8} (h : Bytes w a [x]) : ∃ b off, a = some ⟨b, off, none⟩ ∧ b < w.heap.size ∧ w.cell? ⟨b, off, none⟩ = some (.int .u8 (x.toNat : Int)) := by
  rcases h with h | ⟨b, off, rfl, hc⟩
  · cases h
  · have h0 := hc 0 (by simp)
    exact ⟨b, off, rfl, World.block_lt_of_cell? w _ h0, by simpa using h0⟩

theorem ret_iib {k m : IntKind} {a b c d : Int} {x y : Bool} (h : a = b) (h1 : c = d) (h2 : x = y) : Ending.returned (.tuple #[.int k a, .int m c, .bool x]) = .returned (.tuple #[.int k b, .int m d, .bool y]) := by rw [h, h1, h2]

/-- The way of the heartbeats, and the others. -/
theorem he_ways (id : Int) (rem : Bool) (l : List UInt8) : (∃ x : UInt8, (1793 ≤ id ∧ id ≤ 1919) ∧ rem = false ∧ l = [x] ∧ knS (x.toNat : Int) ∧ heN id rem l = id - 1792 ∧ heS id rem l = (x.toNat : Int) ∧ decide (heOk id rem l) = true) ∨
    ((heN id rem l = 0 ∧ heS id rem l = 0 ∧ decide (heOk id rem l) = false) ∧ (¬ (1793 ≤ id ∧ id ≤ 1919) ∨ ((1793 ≤ id ∧ id ≤ 1919) ∧ rem = true) ∨ ((1793 ≤ id ∧ id ≤ 1919) ∧ rem = false ∧ l.length ≠ 1) ∨ ∃ x : UInt8, (1793 ≤ id ∧ id ≤ 1919) ∧ rem = false ∧ l = [x] ∧ ¬ knS (x.toNat : Int))) := by
  by_cases h : heOk id rem l
  · obtain ⟨h1, h2, h3, h4⟩ := h
    obtain ⟨x, rfl⟩ : ∃ x, l = [x] := by
      match l, h3 with
      | [x], _ => exact ⟨x, rfl⟩
    have h : heOk id rem [x] := ⟨h1, h2, h3, h4⟩
    exact .inl ⟨x, h1, h2, rfl, h4, if_pos h, if_pos h, decide_eq_true h⟩
  · refine .inr ⟨⟨if_neg h, if_neg h, decide_eq_false h⟩, ?_⟩
    by_cases c1 : 1793 ≤ id ∧ id ≤ 1919
    · cases rem
      · by_cases c3 : l.length = 1
        · obtain ⟨x, rfl⟩ : ∃ x, l = [x] := by
            match l, c3 with
            | [x], _ => exact ⟨x, rfl⟩
          exact .inr (.inr (.inr ⟨x, c1, rfl, rfl, fun k => h ⟨c1, rfl, c3, k⟩⟩))
        · exact .inr (.inr (.inl ⟨c1, rfl, c3⟩))
      · exact .inr (.inl ⟨c1, rfl⟩)
    · exact .inl c1

set_option maxRecDepth 100000 in
set_option maxHeartbeats 1000000 in
theorem heard_any (id : Int) (rem : Bool) (l : List UInt8) (a : Option Addr) (cap : Nat) (w : World) (hl : (l.length : Int) ≤ 70368744177664) (hB : Bytes w a l) :
    Calls Try.prog 32 #[.agg #[.int .i64 id, .bool rem, .slice a l.length cap]] w fun e w' => e = .returned (.tuple #[.int .i64 (heN id rem l), .int .i64 (heS id rem l), .bool (decide (heOk id rem l))]) ∧ Below w.heap.size w w' := by
  rcases he_ways id rem l with ⟨x, h1, rfl, rfl, h4, e1, e2, e3⟩ | ⟨⟨e1, e2, e3⟩, h⟩
  · rw [e1, e2, e3]
    obtain ⟨b, off, rfl, hlt, hx⟩ := one_of hB
    have H9 := Lib.hid (of9 id h1)
    have HK := Lib.hid (decide_eq_true h4)
    have hxl := x.toNat_lt
    clear e1 e2 e3 hB h4
    generalize x.toNat = X at *
    go_enter Try.func32, Try.ntmps32
    go_wp2_with fail
    refine (of_any id _).mono ?_
    rintro e w1 ⟨rfl, hb1⟩
    rw [H9.out.1, H9.out.2.1, H9.out.2.2]
    have HB1 := Lib.hid (bstep (B := w.heap.size) (w := w) hb1 (by go_grown) (Nat.le_refl _))
    have hx1 : w1.cell? ⟨b, off, none⟩ = some (.int .u8 (X : Int)) := (HB1.out.cell (p := ⟨b, off, none⟩) hlt).trans hx
    have HF := Lib.hid (bkeep' hb1 (heap_alloc_new w _))
    have s1 := hb1.size
    simp only [World.size_alloc] at s1
    have k1 : w.heap.size < w1.heap.size := by omega
    have k2 : b < w1.heap.size := by omega
    clear hb1 hx
    obtain ⟨p0, p1, p2⟩ := cells3' HF.out
    generalize ofN id = n at *
    go_wp2_with fail
    refine (kn_any _ _).mono ?_
    rintro e w2 ⟨rfl, rfl⟩
    rw [HK.out]
    go_wp2_with fail
    go_quiet (fail)
    go_wp2_with fail
    go_ret3
    have b1 := HB1.out
    have k0 := b1.size
    exact ⟨rfl, below_dn (by go_grown) _⟩
  · rw [e1, e2, e3]
    clear e1 e2 e3
    rcases h with h | ⟨h, rfl⟩ | ⟨h, rfl, hne⟩ | ⟨x, h, rfl, rfl, hk⟩
    · have H9 := Lib.hid (of9' id h)
      clear h hB
      generalize l.length = n at *
      go_enter Try.func32, Try.ntmps32
      go_wp2_with fail
      refine (of_any id _).mono ?_
      rintro e w1 ⟨rfl, hb1⟩
      have HB1 := Lib.hid (bstep (B := w.heap.size) (w := w) hb1 (by go_grown) (Nat.le_refl _))
      have b1 := HB1.out
      have k0 := b1.size
      clear hb1
      generalize ofN id = n1 at *
      generalize ofK id = k1 at *
      generalize ofD id = d1 at *
      generalize decide (named id) = bb at *
      rcases H9.out with rfl | h9
      · go_wp2_with fail
        go_ret3
        exact ⟨rfl, by go_grown⟩
      · cases bb
        · go_wp2_with fail
          go_ret3
          exact ⟨rfl, by go_grown⟩
        · go_wp2_with fail
          go_ret3
          exact ⟨rfl, by go_grown⟩
    · have H9 := Lib.hid (of9 id h)
      clear hB
      generalize l.length = n at *
      go_enter Try.func32, Try.ntmps32
      go_wp2_with fail
      refine (of_any id _).mono ?_
      rintro e w1 ⟨rfl, hb1⟩
      rw [H9.out.1, H9.out.2.1, H9.out.2.2]
      have HB1 := Lib.hid (bstep (B := w.heap.size) (w := w) hb1 (by go_grown) (Nat.le_refl _))
      have HF := Lib.hid (bkeep' hb1 (heap_alloc_new w _))
      have s1 := hb1.size
      simp only [World.size_alloc] at s1
      have b1 := HB1.out
      have k0 := b1.size
      have k1 : w.heap.size < w1.heap.size := by omega
      clear hb1
      obtain ⟨p0, p1, p2⟩ := cells3' HF.out
      generalize ofN id = n1 at *
      go_wp2_with fail
      go_ret3
      exact ⟨rfl, by go_grown⟩
    · have H9 := Lib.hid (of9 id h)
      clear hB
      have hne' : ((l.length : Int) != 1) = true := by rw [bne_iff_ne]; omega
      generalize l.length = n at *
      clear hne
      go_enter Try.func32, Try.ntmps32
      go_wp2_with fail
      refine (of_any id _).mono ?_
      rintro e w1 ⟨rfl, hb1⟩
      rw [H9.out.1, H9.out.2.1, H9.out.2.2]
      have HB1 := Lib.hid (bstep (B := w.heap.size) (w := w) hb1 (by go_grown) (Nat.le_refl _))
      have HF := Lib.hid (bkeep' hb1 (heap_alloc_new w _))
      have s1 := hb1.size
      simp only [World.size_alloc] at s1
      have b1 := HB1.out
      have k0 := b1.size
      have k1 : w.heap.size < w1.heap.size := by omega
      clear hb1
      obtain ⟨p0, p1, p2⟩ := cells3' HF.out
      generalize ofN id = n1 at *
      go_wp2_with fail
      go_ret3
      exact ⟨rfl, by go_grown⟩
    · obtain ⟨b, off, rfl, hlt, hx⟩ := one_of hB
      have H9 := Lib.hid (of9 id h)
      have HK := Lib.hid (decide_eq_false hk)
      have hxl := x.toNat_lt
      clear hB hk
      generalize x.toNat = X at *
      go_enter Try.func32, Try.ntmps32
      go_wp2_with fail
      refine (of_any id _).mono ?_
      rintro e w1 ⟨rfl, hb1⟩
      rw [H9.out.1, H9.out.2.1, H9.out.2.2]
      have HB1 := Lib.hid (bstep (B := w.heap.size) (w := w) hb1 (by go_grown) (Nat.le_refl _))
      have hx1 : w1.cell? ⟨b, off, none⟩ = some (.int .u8 (X : Int)) := (HB1.out.cell (p := ⟨b, off, none⟩) hlt).trans hx
      have HF := Lib.hid (bkeep' hb1 (heap_alloc_new w _))
      have s1 := hb1.size
      simp only [World.size_alloc] at s1
      have k1 : w.heap.size < w1.heap.size := by omega
      have k2 : b < w1.heap.size := by omega
      clear hb1 hx
      obtain ⟨p0, p1, p2⟩ := cells3' HF.out
      generalize ofN id = n at *
      go_wp2_with fail
      refine (kn_any _ _).mono ?_
      rintro e w2 ⟨rfl, rfl⟩
      rw [HK.out]
      go_wp2_with fail
      go_ret3
      have b1 := HB1.out
      have k0 := b1.size
      exact ⟨rfl, by go_grown⟩

set_option maxRecDepth 100000 in
set_option maxHeartbeats 1000000 in
theorem rheard_any (id : Int) (rem : Bool) (l : List UInt8) (a : Option Addr) (cap : Nat) (w : World) (hl : (l.length : Int) ≤ 70368744177664) (hB : Bytes w a l) :
    Calls Try.prog 33 #[.agg #[.int .i64 id, .bool rem, .slice a l.length cap]] w fun e w' => e = .returned (.tuple #[.int .i64 (heN id rem l), .int .i64 (heS id rem l), .bool (decide (heOk id rem l))]) ∧ Below w.heap.size w w' := by
  rcases he_ways id rem l with ⟨x, h1, rfl, rfl, h4, e1, e2, e3⟩ | ⟨⟨e1, e2, e3⟩, h⟩
  · rw [e1, e2, e3]
    obtain ⟨b, off, rfl, hlt, hx⟩ := one_of hB
    have HK := Lib.hid (decide_eq_true h4)
    have hxl := x.toNat_lt
    have d1 : decide (id ≤ 1792) = false := by rw [decide_eq_false_iff_not]; omega
    have d2 : decide (1919 < id) = false := by rw [decide_eq_false_iff_not]; omega
    have ew : IntKind.i64.wrap (id - 1792) = id - 1792 := IntWalk.i64_in _ (by omega)
    have EW := Lib.hid ew
    clear e1 e2 e3 hB h4 ew
    generalize x.toNat = X at *
    go_enter Try.func33, Try.ntmps33
    go_wp2_with fail
    refine (rkn_any _ _).mono ?_
    rintro e w2 ⟨rfl, rfl⟩
    rw [HK.out]
    have ew := EW.out
    go_wp2_with fail
    go_quiet (fail)
    go_wp2_with fail
    go_ret3
    exact ⟨rfl, below_dn (by go_grown) _⟩
  · rw [e1, e2, e3]
    clear e1 e2 e3
    rcases h with h | ⟨h, rfl⟩ | ⟨h, rfl, hne⟩ | ⟨x, h, rfl, rfl, hk⟩
    · clear hB
      generalize l.length = n at *
      by_cases d : id ≤ 1792
      · have d1 : decide (id ≤ 1792) = true := by rw [decide_eq_true_iff]; omega
        clear h d
        go_enter Try.func33, Try.ntmps33
        go_wp2_with fail
        go_ret3
        exact ⟨rfl, by go_grown⟩
      · have d1 : decide (id ≤ 1792) = false := by rw [decide_eq_false_iff_not]; omega
        have d2 : decide (1919 < id) = true := by rw [decide_eq_true_iff]; omega
        clear h d
        go_enter Try.func33, Try.ntmps33
        go_wp2_with fail
        go_ret3
        exact ⟨rfl, by go_grown⟩
    · clear hB
      have d1 : decide (id ≤ 1792) = false := by rw [decide_eq_false_iff_not]; omega
      have d2 : decide (1919 < id) = false := by rw [decide_eq_false_iff_not]; omega
      generalize l.length = n at *
      go_enter Try.func33, Try.ntmps33
      go_wp2_with fail
      go_ret3
      exact ⟨rfl, by go_grown⟩
    · clear hB
      have hne' : ((l.length : Int) != 1) = true := by rw [bne_iff_ne]; omega
      have d1 : decide (id ≤ 1792) = false := by rw [decide_eq_false_iff_not]; omega
      have d2 : decide (1919 < id) = false := by rw [decide_eq_false_iff_not]; omega
      generalize l.length = n at *
      clear hne
      go_enter Try.func33, Try.ntmps33
      go_wp2_with fail
      go_ret3
      exact ⟨rfl, by go_grown⟩
    · obtain ⟨b, off, rfl, hlt, hx⟩ := one_of hB
      have HK := Lib.hid (decide_eq_false hk)
      have hxl := x.toNat_lt
      have d1 : decide (id ≤ 1792) = false := by rw [decide_eq_false_iff_not]; omega
      have d2 : decide (1919 < id) = false := by rw [decide_eq_false_iff_not]; omega
      clear hB hk
      generalize x.toNat = X at *
      go_enter Try.func33, Try.ntmps33
      go_wp2_with fail
      refine (rkn_any _ _).mono ?_
      rintro e w2 ⟨rfl, rfl⟩
      rw [HK.out]
      go_wp2_with fail
      go_ret3
      exact ⟨rfl, by go_grown⟩

def alike (i j : Int) (r s : Bool) (l m : List UInt8) : Prop := i = j ∧ r = s ∧ l = m
instance (i j : Int) (r s : Bool) (l m : List UInt8) : Decidable (alike i j r s l m) := by unfold alike; infer_instance

set_option maxRecDepth 100000 in
set_option maxHeartbeats 1000000 in
theorem same_yes (i : Int) (r : Bool) (l : List UInt8) (a b : Option Addr) (ca cb : Nat) (w : World) (ha : Bytes w a l) (na : a = none → ca = 0) (hb : Bytes w b l) (nb : b = none → cb = 0) :
    Calls Try.prog 34 #[.agg #[.int .i64 i, .bool r, .slice a l.length ca], .agg #[.int .i64 i, .bool r, .slice b l.length cb]] w fun e w' => e = .returned (.bool true) ∧ Below w.heap.size w w' := by
  have hw : Below w.heap.size w ((w.alloc (.cells #[.int .i64 i, .bool r, .slice a l.length ca] 32)).alloc (.cells #[.int .i64 i, .bool r, .slice b l.length cb] 32)) := by go_grown
  have s1 := string_of (ha.below hw) na
  have s2 := string_of (hb.below hw) nb
  clear ha na hb nb hw
  go_enter Try.func34, Try.ntmps34
  go_wp2_with fail
  go_ret
  exact ⟨rfl, by go_grown⟩
end Go.Proofs.Ytpnnmcicpjebmaa
