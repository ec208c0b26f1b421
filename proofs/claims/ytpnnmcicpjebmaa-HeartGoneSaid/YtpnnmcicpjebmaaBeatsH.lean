/-
  LAW HeartBeats: the walk.
-/
import Derived.Test.YtpnnmcicpjebmaaKnown26
import Derived.Test.YtpnnmcicpjebmaaBeatsLaw
import Derived.Handy
import Derived.Deep.Light
import Derived.BigQuiet
import Derived.Deep.QuietTactic
import Derived.Deep.LoopGhost
import Derived.Deep.CutRange
set_option linter.unusedSimpArgs false
set_option linter.unusedVariables false
namespace Go.Proofs.Ytpnnmcicpjebmaa
open Go.RowKit
attribute [local go_sem] Oper.semAt_some

theorem mod_zero {j k : Nat} (hk : 1 ≤ k) (h : ¬ 1 < k - j % k) : (j + 1) % k = 0 := by
  have := Nat.mod_lt j hk
  rw [← Nat.mod_add_mod, show j % k + 1 = k by omega, Nat.mod_self]
theorem mod_next {j k : Nat} (hk : 1 ≤ k) (h : 1 < k - j % k) : (j + 1) % k = j % k + 1 := by
  rw [← Nat.mod_add_mod]
  exact Nat.mod_eq_of_lt (by omega)

def hbS (st : Int) : Prop := st = 127 ∨ st = 5 ∨ st = 4 ∨ st = 0

theorem hb_le {j k : Nat} (hk : 1 ≤ k) : btL (k : Int) ((k - j % k : Nat) : Int) = ((k - (j + 1) % k : Nat) : Int) := by
  unfold btL
  rw [if_neg (by omega)]
  have := Nat.mod_lt j hk
  by_cases h : 1 < k - j % k
  · rw [if_pos (by omega), mod_next hk h]; omega
  · rw [if_neg (by omega), mod_zero hk h]; omega

theorem hb_due {j k : Nat} {st : Int} (hk : 1 ≤ k) (hs : hbS st) (h : btDue (k : Int) ((k - j % k : Nat) : Int) st) : (j + 1) % k = 0 ∧ st ≠ 0 := by
  obtain ⟨_, h2, h3⟩ := h
  refine ⟨mod_zero hk (by omega), ?_⟩
  unfold svB at h3; omega
theorem hb_not {j k : Nat} {st : Int} (hk : 1 ≤ k) (hs : hbS st) (h : ¬ btDue (k : Int) ((k - j % k : Nat) : Int) st) : (j + 1) % k ≠ 0 ∨ st = 0 := by
  by_cases h0 : st = 0
  · exact .inr h0
  · left
    have := Nat.mod_lt j hk
    intro hz
    apply h
    refine ⟨by omega, ?_, ?_⟩
    · intro h1
      have := mod_next hk (show 1 < k - j % k by omega)
      omega
    · unfold svB; unfold hbS at hs; omega

set_option maxRecDepth 100000 in
set_option maxHeartbeats 4000000 in
theorem hbeats_walk (n0 p0 : Nat) (l : List UInt8) (a : Option Addr) (cap : Nat) (w : World) (hn0 : n0 < 256) (hp0 : p0 < 256) (hl : (l.length : Int) ≤ 9223372036854775807) (hB : Bytes w a l) :
    Calls Try.prog 10 #[.int .u8 (n0 : Int), .int .u8 (p0 : Int), .slice a l.length cap] w fun e w' => e = .returned (.bool true) ∧ Below w.heap.size w w' := by
  have HBY := Lib.hid hB
  clear hB
  have hn1 : (0 : Int) ≤ (n0 : Int) := by omega
  have hp1 : (0 : Int) ≤ (p0 : Int) := by omega
  have hn2 : (n0 : Int) < 256 := by omega
  have hp2 : (p0 : Int) < 256 := by omega
  go_enter Try.func10, Try.ntmps10
  go_wp2_with fail
  obtain ⟨n, hn, hn', hn127⟩ : ∃ n : Nat, 1 + (n0 : Int) % 127 = (n : Int) ∧ 1 ≤ n ∧ n ≤ 127 := ⟨1 + n0 % 127, by omega, by omega, by omega⟩
  obtain ⟨k, hk, hk', hk20⟩ : ∃ k : Nat, 1 + (p0 : Int) % 20 = (k : Int) ∧ 1 ≤ k ∧ k ≤ 20 := ⟨1 + p0 % 20, by omega, by omega, by omega⟩
  rw [hn]
  clear hn hn1 hn2
  refine (hnew_ok n _ (by omega)).mono ?_
  rintro e w1 ⟨rfl, rfl⟩
  go_wp2_with fail
  clear hk hp1 hp2
  refine (period_ok w.heap.size n 0 0 (.slice none 0 0) k _ (heap_alloc_new _ _) (by omega) (by omega)).mono ?_
  rintro e w2 ⟨rfl, hH, hU⟩
  have s2 := hU.size
  have HH := Lib.hid hH
  have HB := Lib.hid (show Below w.heap.size w w2 from (((Upd.refl (fun k => w.heap.size ≤ k) w).alloc _).trans hU (fun i _ h => Nat.le_of_eq h.symm)).toBelow (Nat.le_refl _) (fun i h k => by omega))
  clear hH hU
  generalize hb0 : w.heap.size = b at *
  go_wp2_with fail
  go_loopg [11] (3 * k + 2) (fun g t wr => ∃ j : Nat, j ≤ 3 * k + 2 ∧ g = 3 * k + 2 - j ∧ t = .int .i64 (j + 1 : Nat) ∧ Below b w wr ∧ Hrt wr b n k (k - j % k : Nat) (.slice none 0 0))
  case atStart => exact ⟨0, by omega, by omega, rfl, HB.out, by simpa using HH.out⟩
  case round =>
    obtain ⟨j, hj, hg, rfl, hBr, hHr⟩ := hrel
    have HBR := Lib.hid hBr
    have HHR := Lib.hid hHr
    have HG := Lib.hid hg
    have hbw := hHr.lt
    clear hBr hHr hg HH HB
    by_cases hlast : j < 3 * k + 2
    · have d1 : ((j + 1 : Nat) : Int) ≤ 3 * (k : Int) + 2 := by omega
      go_upto_if 49 with fail
      go_cut [12] from 39 to 100 (fun o wx => Below b w wx ∧ Hrt wx b n k (k - j % k : Nat) (.slice none 0 0) ∧ ∃ st, o = .int .i64 st ∧ hbS st)
      case first =>
        by_cases hjl : j + 1 < l.length
        · have d2 : (j : Int) + 1 < (l.length : Int) := by omega
          obtain ⟨lb, off, rfl, hc⟩ : ∃ lb off, a = some ⟨lb, off, none⟩ ∧ ∀ i (h : i < l.length), wr.cell? ⟨lb, off + i, none⟩ = some (.int .u8 (l[i].toNat : Int)) := by
            rcases HBY.out.below (hb0.symm ▸ HBR.out) with h | h
            · subst h; simp at hjl
            · exact h
          have hcj := hc (j + 1) hjl
          have hx4 : ((l[j + 1].toNat : Nat) : Int).tmod 4 = 0 ∨ ((l[j + 1].toNat : Nat) : Int).tmod 4 = 1 ∨ ((l[j + 1].toNat : Nat) : Int).tmod 4 = 2 ∨ ((l[j + 1].toNat : Nat) : Int).tmod 4 = 3 := by
            rw [Int.tmod_eq_emod_of_nonneg (by omega)]; omega
          have hx0 : (0 : Int) ≤ ((l[j + 1].toNat : Nat) : Int) := by omega
          have hx1 : ((l[j + 1].toNat : Nat) : Int) < 256 := by have := l[j + 1].toNat_lt; omega
          generalize ((l[j + 1].toNat : Nat) : Int) = x at *
          have hlb := World.block_lt_of_cell? wr _ hcj
          clear hc
          have HA : ∀ X : Obj, Hrt (wr.alloc X) b n k (k - j % k : Nat) (.slice none 0 0) := fun X => akeep _ HHR.out
          have HA' := Lib.hid HA
          have HBA : ∀ X : Obj, Below b w (wr.alloc X) := fun X => HBR.out.alloc (by omega) X
          have HBA' := Lib.hid HBA
          clear HA HBA
          rcases hx4 with hx4 | hx4 | hx4 | hx4
          · go_wp2_with fail
            go_meet
            case rel => exact ⟨HBA'.out _, HA'.out _, 127, rfl, by unfold hbS; omega⟩
          · go_wp2_with fail
            go_meet
            case rel => exact ⟨HBA'.out _, HA'.out _, 5, rfl, by unfold hbS; omega⟩
          · go_wp2_with fail
            go_meet
            case rel => exact ⟨HBA'.out _, HA'.out _, 4, rfl, by unfold hbS; omega⟩
          · go_wp2_with fail
            go_meet
            case rel => exact ⟨HBA'.out _, HA'.out _, 0, rfl, by unfold hbS; omega⟩
        · have d2 : ¬ (j : Int) + 1 < (l.length : Int) := by omega
          go_wp2_with fail
          go_meet
          case rel => exact ⟨HBR.out, HHR.out, 127, rfl, by unfold hbS; omega⟩
      case rest =>
        obtain ⟨hBc, hHc, st, rfl, hst⟩ := hcut
        have HBC := Lib.hid hBc
        have hbc := hHc.lt
        have HHC := Lib.hid hHc
        have HST := Lib.hid hst
        have hle1 := Nat.mod_lt j hk'
        clear hBc hHc hst HBR HHR
        go_wp2_with fail
        refine (tickH_any b 0 n k (k - j % k : Nat) none 0 0 [] st _ HHC.out ⟨rfl, .inl rfl⟩ (by omega) (by omega) (by omega) (by simp)).mono ?_
        rintro e w3 ⟨out, nv, rfl, hout, hown, hH3, hP3, hU3⟩
        rw [hb_le hk'] at hH3
        have hown : w3.ownsRow _ 36 2 nv 0 [] := hown
        obtain ⟨na, nc, rfl⟩ := news_shape hown
        have HH3 := Lib.hid hH3
        have HB3 := Lib.hid (HBC.out.trans (hU3.toBelow (B := b) (by omega) (fun i h k => by omega)))
        have hb3 := hH3.lt
        clear hown hH3 hP3 hU3 HHC HBC
        by_cases hdue : btDue (k : Int) ((k - j % k : Nat) : Int) st
        · obtain ⟨hz, hs0⟩ := hb_due hk' HST.out hdue
          obtain ⟨g, rfl, hgs, hbt⟩ : ∃ g, out = .slice (some ⟨g, 0, none⟩) 1 1 ∧ wc.heap.size ≤ g ∧ Beat1 w3 g n st := by
            rcases hout with ⟨_, h⟩ | ⟨h, _⟩
            · exact h
            · exact absurd hdue h
          obtain ⟨d, hgc, hdc⟩ := hbt
          have hr : ((j : Int) + 1).tmod (k : Int) = 0 := by rw [show ((j : Int) + 1).tmod (k : Int) = (((j + 1) % k : Nat) : Int) from rfl, hz]; rfl
          have hkz : ((k : Int) == 0) = false := by rw [beq_eq_false_iff_ne]; omega
          have hkz2 : ¬ k = 0 := by omega
          have hwn : IntKind.i64.wrap (k : Int) = (k : Int) := IntWalk.i64_in _ (by omega)
          have HD := Lib.hid hdc
          obtain ⟨f0, f1, f2⟩ := cells3' hgc
          have hgl := lt_of_block hgc
          have hst := HST.out
          clear hout hdue hz hgc hdc HST
          unfold hbS at hst
          have end_ : ∀ (u : UInt8) (st : Int), st = (u.toNat : Int) → ∀ w5 : World, Below (w3.heap.size + 1) (w3.alloc (.cells #[.int .u8 st] 5)) w5 → Below b w w5 ∧ Hrt w5 b n k (k - (j + 1) % k : Nat) (.slice none 0 0) := fun u st _ w5 h =>
            ⟨bstep (B := b) (w := w) (by simpa using h) (HB3.out.alloc (by omega) _) (by omega), bkeep' (by simpa using h) (akeep _ HH3.out)⟩
          have END := Lib.hid end_
          clear end_
          rcases hst with rfl | rfl | rfl | rfl
          · clear hs0
            go_wp2_with fail
            refine (same_one (1792 + n) false 127 d w3.heap.size _ (akeep _ HD.out) (heap_alloc_new w3 _)).mono ?_
            rintro e w5 ⟨rfl, hb5⟩
            have E5 := Lib.hid (END.out 127 127 rfl w5 (by simpa using hb5))
            clear hb5
            go_wp2_with fail
            go_roundg (3 * k + 2 - (j + 1))
            case measure => have := HG.out; omega
            case rel => exact ⟨j + 1, by omega, rfl, by go_num, E5.out.1, E5.out.2⟩
          · clear hs0
            go_wp2_with fail
            refine (same_one (1792 + n) false 5 d w3.heap.size _ (akeep _ HD.out) (heap_alloc_new w3 _)).mono ?_
            rintro e w5 ⟨rfl, hb5⟩
            have E5 := Lib.hid (END.out 5 5 rfl w5 (by simpa using hb5))
            clear hb5
            go_wp2_with fail
            go_roundg (3 * k + 2 - (j + 1))
            case measure => have := HG.out; omega
            case rel => exact ⟨j + 1, by omega, rfl, by go_num, E5.out.1, E5.out.2⟩
          · clear hs0
            go_wp2_with fail
            refine (same_one (1792 + n) false 4 d w3.heap.size _ (akeep _ HD.out) (heap_alloc_new w3 _)).mono ?_
            rintro e w5 ⟨rfl, hb5⟩
            have E5 := Lib.hid (END.out 4 4 rfl w5 (by simpa using hb5))
            clear hb5
            go_wp2_with fail
            go_roundg (3 * k + 2 - (j + 1))
            case measure => have := HG.out; omega
            case rel => exact ⟨j + 1, by omega, rfl, by go_num, E5.out.1, E5.out.2⟩
          · exact absurd rfl hs0
        · have hnz := hb_not hk' HST.out hdue
          obtain rfl : out = .slice none 0 0 := by
            rcases hout with ⟨h, _⟩ | ⟨_, h⟩
            · exact absurd h hdue
            · exact h
          have hkz : ((k : Int) == 0) = false := by rw [beq_eq_false_iff_ne]; omega
          have hkz2 : ¬ k = 0 := by omega
          have hwn : IntKind.i64.wrap (k : Int) = (k : Int) := IntWalk.i64_in _ (by omega)
          clear hout hdue HST
          by_cases hz : (j + 1) % k = 0
          · obtain rfl : st = 0 := hnz.resolve_left (fun h => h hz)
            have hr : ((j : Int) + 1).tmod (k : Int) = 0 := by rw [show ((j : Int) + 1).tmod (k : Int) = (((j + 1) % k : Nat) : Int) from rfl, hz]; rfl
            clear hnz hz
            go_wp2_with fail
            go_roundg (3 * k + 2 - (j + 1))
            case measure => have := HG.out; omega
            case rel => exact ⟨j + 1, by omega, rfl, by go_num, HB3.out, HH3.out⟩
          · have hr : ((j : Int) + 1).tmod (k : Int) = (((j + 1) % k : Nat) : Int) := rfl
            have hrz : ((((j + 1) % k : Nat) : Int) == 0) = false := by rw [beq_eq_false_iff_ne]; omega
            clear hnz hz
            generalize hm : (((j + 1) % k : Nat) : Int) = m at *
            clear hm
            go_wp2_with fail
            go_roundg (3 * k + 2 - (j + 1))
            case measure => have := HG.out; omega
            case rel => exact ⟨j + 1, by omega, rfl, by go_num, HB3.out, HH3.out⟩
    · obtain rfl : j = 3 * k + 2 := by omega
      have d1 : ¬ ((3 * k + 2 + 1 : Nat) : Int) ≤ 3 * (k : Int) + 2 := by omega
      go_wp2_with fail
      refine (known26 _).mono ?_
      rintro e w5 ⟨rfl, hb5⟩
      go_wp2_with fail
      go_ret
      exact ⟨rfl, by rw [hb0]; exact HBR.out.trans (hb5.mono (by omega))⟩

theorem hbeats_frame (a0 a1 : Int) (a : Option Addr) (len cap : Nat) (zs : List Int) (w : World) (w0 : (Lit.int .u8 a0).wf = true) (w1 : (Lit.int .u8 a1).wf = true) (hr : IsRow .u8 w a len cap zs) :
    Calls Try.prog 10 #[.int .u8 a0, .int .u8 a1, .slice a len cap] w fun e w' => e = .returned (.bool true) ∧ Below w.heap.size w w' := by
  obtain ⟨n, rfl, hn⟩ := u8_nat w0
  obtain ⟨p, rfl, hp⟩ := u8_nat w1
  obtain ⟨l, rfl, hB, hn', hm⟩ := hr.bytes
  exact hbeats_walk n p l a cap w hn hp (by unfold maxLen at hm; omega) hB
end Go.Proofs.Ytpnnmcicpjebmaa
