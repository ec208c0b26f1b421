/-
  CONTRACTS of the laws' rows and of the references' Count.
-/
import Derived.Test.YtibgfeammjliiaaFlsL
set_option linter.unusedSimpArgs false
set_option linter.unusedVariables false
namespace Go.Proofs.Ytibgfeammjliiaa
open Go.RowKit
attribute [local go_sem] Oper.semAt_some

theorem tmod_fix (a : Int) (n : Nat) (hn : 0 < n) : a % (n : Int) = if a.tmod (n : Int) < 0 then a.tmod (n : Int) + (n : Int) else a.tmod (n : Int) := by
  have hm := Int.emod_lt_of_pos a (show (0 : Int) < n by omega)
  have hm0 := Int.emod_nonneg a (show (n : Int) ≠ 0 by omega)
  have h := @Int.emod_eq_tmod a (n : Int)
  rw [Int.natAbs_natCast] at h
  have hl := Int.lt_tmod_of_pos a (show (0 : Int) < n by omega)
  generalize a.tmod (n : Int) = t at *
  generalize a % (n : Int) = r at *
  by_cases h0 : 0 ≤ a ∨ (n : Int) ∣ a
  · rw [if_pos h0] at h
    rw [if_neg (by omega)]
    omega
  · rw [if_neg h0] at h
    rw [if_pos (by omega)]
    exact h

theorem count_any (a : Int) (n : Nat) (w : World) (ha : -9223372036854775808 ≤ a ∧ a ≤ 9223372036854775807) (hn : 0 < n) (hB : (n : Int) ≤ 1000000) :
    Calls Try.prog 16 #[.int .i64 a, .int .i64 (n : Int)] w fun e w' => e = .returned (.int .i64 (a % (n : Int))) ∧ w = w' := by
  have hf := tmod_fix a n hn
  have hl := Int.lt_tmod_of_pos a (show (0 : Int) < n by omega)
  have hl2 := Int.tmod_lt_of_pos a (show (0 : Int) < n by omega)
  obtain ⟨t, ht⟩ : ∃ t, a.tmod (n : Int) = t := ⟨_, rfl⟩
  rw [ht] at hf hl hl2
  rw [hf]
  have hn0 : ((n : Int) == 0) = false := beq_eq_false_iff_ne.2 (by omega)
  have hwr : IntKind.i64.wrap t = t := IntWalk.i64_in _ (by omega)
  have hwr2 : IntKind.i64.wrap (t + n) = t + n := IntWalk.i64_in _ (by omega)
  obtain ⟨a1, a2⟩ := ha
  clear hf
  by_cases h0 : t < 0
  · rw [if_pos h0]
    have dt : decide (t < 0) = true := decide_eq_true h0
    go_enter Try.func16, Try.ntmps16
    go_wp2_with fail
    go_ret
    exact ⟨rfl, rfl⟩
  · rw [if_neg h0]
    have dt : decide (t < 0) = false := decide_eq_false h0
    go_enter Try.func16, Try.ntmps16
    go_wp2_with fail
    go_ret
    exact ⟨rfl, rfl⟩

/-- The bytes of the laws' rows. -/
def rowAt (l : List UInt8) (i : Nat) : Int := if l = [] then bits .xor .u8 ((i : Int) * 37 % 256) ((i : Int) / 256) else ((l[i % l.length]?).getD 0).toNat
def rowZ (l : List UInt8) (n : Nat) : List Int := (List.range n).map (rowAt l)
theorem rowZ_length (l : List UInt8) (n : Nat) : (rowZ l n).length = n := by simp [rowZ]
theorem rowZ_succ (l : List UInt8) (n : Nat) : rowZ l (n + 1) = rowZ l n ++ [rowAt l n] := by simp [rowZ, List.range_succ]

set_option maxRecDepth 100000 in
set_option maxHeartbeats 4000000 in
theorem rows_any (a : Option Addr) (m xc : Nat) (l : List UInt8) (w : World) (hl : l.length = m) (hm : (m : Int) ≤ 9223372036854775807) (hb : Bytes w a l) :
    Calls Try.prog 15 #[.slice a m xc] w fun e w' => ∃ B bv wv, e = .returned (.pointer (some ⟨B, 0, none⟩)) ∧ Fls w' B bv wv (rowZ l 2048) [0, 0] 5 false (-1) 0 0 ∧
      w.heap.size ≤ B ∧ (∀ j, bv.ownBlock = some j → w.heap.size ≤ j) ∧ (∀ j, wv.ownBlock = some j → w.heap.size ≤ j) ∧ Below w.heap.size w w' := by
  have HB0 := Lib.hid (And.intro hl hb)
  clear hl hb
  go_enter Try.func15, Try.ntmps15
  go_wp2_with fail
  go_loopg [3, 4] 2048 (fun gg v i wr => ∃ k : Nat, k ≤ 2048 ∧ gg = 2048 - k ∧ i = .int .i64 (k : Int) ∧ Below w.heap.size w wr ∧ wr.ownsRow w.heap.size 5 1 v k (zv (rowZ l k)))
  case atStart => exact ⟨0, by omega, by omega, rfl, Below.refl _ w, World.ownsRow_nil _ _ _ _⟩
  case round =>
    obtain ⟨k, hk, hgk, rfl, hB, hO⟩ := hrel
    have HG := Lib.hid hgk
    have HB := Lib.hid hB
    have HO := Lib.hid hO
    clear hgk hB hO
    have H3 : Hid (k + 1 ≤ maxLen ∧ (k + 1) * 1 ≤ 140737488355328) := by show _ ∧ _; unfold maxLen; omega
    have fin : ∀ x : Int, x = rowAt l k → ∀ v0 v' w', wr.ownsRow w.heap.size 5 1 v0 k (zv (rowZ l k)) → w'.ownsRow w.heap.size 5 1 v' (k + 1) (zv (rowZ l k) ++ [.int .u8 x]) → (wr.alloc (.cells #[.int .u8 x] 5)).grownBy w' v0.ownBlock → k < 2048 → Below w.heap.size w w' ∧ w'.ownsRow w.heap.size 5 1 v' (k + 1) (zv (rowZ l (k + 1))) := by
      intro x hx v0 v' w' ho0 hown hg _
      subst hx
      refine ⟨(HB.out.alloc HB.out.size _).grown hg (by have := HB.out.size; simp; omega) (fun j e => (ho0.lt j e).1), ?_⟩
      rw [rowZ_succ]
      unfold zv at hown ⊢
      rw [List.map_append]
      exact hown
    have FIN := Lib.hid fin
    have C1 : Hid (∀ x : Int, ∀ ad, some (⟨wr.heap.size, 0, none⟩ : Addr) = some ad → ∀ j u, ([.int .u8 x] : List Value)[j]? = some u → (wr.alloc (.cells #[.int .u8 x] 5)).cell? (ad.add j) = some u) := by
      intro x ad e i u hu
      cases e
      rw [Addr.add_lit, Nat.zero_add]
      match i, hu with
      | 0, hu => simp at hu; subst hu; exact cells1 (heap_alloc_new _ _)
    have C2 : Hid (∀ x : Int, ∀ u ∈ ([.int .u8 x] : List Value), u.oneCell' = true) := by intro x u hu; simp at hu; subst hu; rfl
    have C5 : Hid (∀ o, w.heap.size ≤ (wr.alloc o).heap.size) := by intro o; have := HB.out.size; simp; omega
    clear fin
    by_cases hkn : k < 2048
    · have dk : (k : Int) < 2048 := by omega
      by_cases hm0 : m = 0
      · have hl0 : l = [] := List.eq_nil_of_length_eq_zero (by rw [HB0.out.1]; exact hm0)
        have hx : bits .xor .u8 ((k : Int) * 37 % 256) ((k : Int) / 256) = rowAt l k := by unfold rowAt; rw [if_pos hl0]
        obtain ⟨x, hx1⟩ : ∃ x, rowAt l k = x := ⟨_, rfl⟩
        rw [hx1] at hx
        have HX := Lib.hid hx1.symm
        clear hx1 hl0
        subst hm0
        go_wp2_with (at_builtin; refine wpList_append_any rfl (.tmp 27) (.tmp 29) 22 rfl w.heap.size 5 (.int .u8 0) 1 1 Try.underlying22 info_sp rfl (by decide) _ _ _ rfl (HO.out.alloc _) (some ⟨wr.heap.size, 0, none⟩) 1 1 [.int .u8 x] rfl (fun h => by cases h) (by simp) (C1.out x) (C2.out x) H3.out.1 H3.out.2 (C5.out _) ?_)
        intro v' w1 hown hg
        obtain ⟨hb1, ho1⟩ := FIN.out x HX.out _ v' w1 HO.out hown hg hkn
        have HB1 := Lib.hid hb1
        have HO1 := Lib.hid ho1
        clear hown hg hb1 ho1 hx
        go_wp2_with fail
        go_roundg (2048 - (k + 1))
        case measure => have := HG.out; omega
        case rel => exact ⟨k + 1, by omega, rfl, by go_num, HB1.out, HO1.out⟩
      · obtain ⟨lb, off, rfl, hcell⟩ := HB0.out.2.resolve_left (fun e => by have := HB0.out.1; rw [e] at this; simp at this; omega)
        obtain ⟨j, hj⟩ : ∃ j, k % m = j := ⟨_, rfl⟩
        have hjm : j < m := by rw [← hj]; exact Nat.mod_lt _ (by omega)
        have hc := hcell j (by rw [HB0.out.1]; exact hjm)
        have hlt := World.block_lt_of_cell? w _ hc
        have hc2 := (HB.out.cell hlt).trans hc
        have dj : (k : Int) % (m : Int) = (j : Int) := by rw [← hj]; rfl
        have hx : ((l[j]'(by rw [HB0.out.1]; exact hjm)).toNat : Int) = rowAt l k := by
          have hne : l ≠ [] := fun e => by have := HB0.out.1; rw [e] at this; simp at this; omega
          unfold rowAt; have e9 : k % l.length = j := by rw [HB0.out.1]; exact hj
          rw [if_neg hne, e9, List.getElem?_eq_getElem (by rw [HB0.out.1]; exact hjm)]; rfl
        rw [hx] at hc2
        obtain ⟨x, hx1⟩ : ∃ x, rowAt l k = x := ⟨_, rfl⟩
        rw [hx1] at hc2
        have HX := Lib.hid hx1.symm
        have dm : decide (0 < (m : Int)) = true := decide_eq_true (by omega)
        have dm0 : ((m : Int) == 0) = false := beq_eq_false_iff_ne.2 (by omega)
        have djm : (j : Int) < (m : Int) := by omega
        clear hx1 hx hcell hc hj hm0
        go_wp2_with (at_builtin; refine wpList_append_any rfl (.tmp 27) (.tmp 29) 22 rfl w.heap.size 5 (.int .u8 0) 1 1 Try.underlying22 info_sp rfl (by decide) _ _ _ rfl (HO.out.alloc _) (some ⟨wr.heap.size, 0, none⟩) 1 1 [.int .u8 x] rfl (fun h => by cases h) (by simp) (C1.out x) (C2.out x) H3.out.1 H3.out.2 (C5.out _) ?_)
        intro v' w1 hown hg
        obtain ⟨hb1, ho1⟩ := FIN.out x HX.out _ v' w1 HO.out hown hg hkn
        have HB1 := Lib.hid hb1
        have HO1 := Lib.hid ho1
        clear hown hg hb1 ho1
        go_wp2_with fail
        go_roundg (2048 - (k + 1))
        case measure => have := HG.out; omega
        case rel => exact ⟨k + 1, by omega, rfl, by go_num, HB1.out, HO1.out⟩
    · obtain rfl : k = 2048 := by omega
      clear hkn FIN
      obtain ⟨g, cap, rfl, hg1, hg2⟩ := own_shape HO.out (by omega)
      have hlen := rowZ_length l 2048
      have hcall : Calls Try.prog 22 #[.slice (some ⟨g, 0, none⟩) 2048 cap, .int .i64 5] wr fun e w' => ∃ B bv wv, e = .returned (.pointer (some ⟨B, 0, none⟩)) ∧ Fls w' B bv wv (rowZ l 2048) [0, 0] 5 false (-1) 0 0 ∧
          wr.heap.size ≤ B ∧ (∀ j, bv.ownBlock = some j → wr.heap.size ≤ j) ∧ (∀ j, wv.ownBlock = some j → wr.heap.size ≤ j) ∧ Below wr.heap.size wr w' := by
        have := of_ok ⟨g, 0, none⟩ (rowZ l 2048) 2 cap 5 wr hlen (by omega) (by omega) (by omega) (by
          intro j u hu
          exact (Lax.of_own HO.out).news _ rfl j u hu)
        rw [hlen] at this
        exact this
      have HC := Lib.hid hcall
      clear hcall hlen
      go_wp2_with fail
      (with_reducible refine HC.out.mono ?_)
      rintro e w1 ⟨B, bv, wv, rfl, hF, hg1, hg2, hg3, hb⟩
      have HF := Lib.hid hF
      have HB2 := Lib.hid hb
      have HGS := Lib.hid (And.intro hg1 (And.intro hg2 hg3))
      clear hF hb hg1 hg2 hg3
      go_wp2_with fail
      go_ret
      have hsz := HB.out.size
      exact ⟨B, bv, wv, rfl, HF.out, Nat.le_trans hsz HGS.out.1, fun j hj => Nat.le_trans hsz (HGS.out.2.1 j hj), fun j hj => Nat.le_trans hsz (HGS.out.2.2 j hj), HB.out.trans (HB2.out.mono hsz)⟩
end Go.Proofs.Ytibgfeammjliiaa
