/-
  CONTRACTS of Set and Every; Tick with a plain list; the fixed calls (known).
-/
import Derived.Test.YtcicmpegajahkaaTick
import Derived.Test.YtcicmpegajahkaaBase
import Derived.Test.YtcicmpegajahkaaNil
set_option linter.unusedSimpArgs false
set_option linter.unusedVariables false
namespace Go.Proofs.Ytcicmpegajahkaa
open Go.RowKit
attribute [local go_sem] Oper.semAt_some

theorem set_ok (b : Nat) (name ticks : Int) (L A : Nat → Int) (w : World) (h : Clk w b L A) (hf : fits name ticks) :
    Calls Try.prog 8 #[.pointer (some ⟨b, 0, none⟩), .int .i64 name, .int .i64 ticks] w fun e w' => e = .returned (.int .i64 0) ∧ Clk w' b (setF L name ticks) (setF A name 0) ∧ Upd (· = b) w w' := by
  go_enter Try.func8, Try.ntmps8
  go_wp2_with fail
  refine (start_ok b name ticks 0 L A _ h hf).mono ?_
  rintro e w' ⟨rfl, hC, hu⟩
  have HC := Lib.hid hC
  clear hC h
  go_wp2_with fail
  go_ret
  exact ⟨rfl, HC.out, hu⟩
theorem set_no (b : Nat) (name ticks : Int) (w : World) (hf : ¬ fits name ticks) :
    Calls Try.prog 8 #[.pointer (some ⟨b, 0, none⟩), .int .i64 name, .int .i64 ticks] w fun e w' => e = .returned (.int .i64 1) ∧ w = w' := by
  go_enter Try.func8, Try.ntmps8
  go_wp2_with fail
  refine (start_no b name ticks 0 _ hf).mono ?_
  rintro e w' ⟨rfl, rfl⟩
  go_wp2_with fail
  go_ret
  exact ⟨rfl, rfl⟩
theorem set_nil (name ticks : Int) (w : World) :
    Calls Try.prog 8 #[.pointer none, .int .i64 name, .int .i64 ticks] w fun e w' => e = .returned (.int .i64 17) ∧ w = w' := by
  go_enter Try.func8, Try.ntmps8
  go_wp2_with fail
  refine (start_nil name ticks 0 _).mono ?_
  rintro e w' ⟨rfl, rfl⟩
  go_wp2_with fail
  go_ret
  exact ⟨rfl, rfl⟩
theorem every_ok (b : Nat) (name ticks : Int) (L A : Nat → Int) (w : World) (h : Clk w b L A) (hf : fits name ticks) :
    Calls Try.prog 9 #[.pointer (some ⟨b, 0, none⟩), .int .i64 name, .int .i64 ticks] w fun e w' => e = .returned (.int .i64 0) ∧ Clk w' b (setF L name ticks) (setF A name ticks) ∧ Upd (· = b) w w' := by
  go_enter Try.func9, Try.ntmps9
  go_wp2_with fail
  refine (start_ok b name ticks ticks L A _ h hf).mono ?_
  rintro e w' ⟨rfl, hC, hu⟩
  have HC := Lib.hid hC
  clear hC h
  go_wp2_with fail
  go_ret
  exact ⟨rfl, HC.out, hu⟩
theorem every_no (b : Nat) (name ticks : Int) (w : World) (hf : ¬ fits name ticks) :
    Calls Try.prog 9 #[.pointer (some ⟨b, 0, none⟩), .int .i64 name, .int .i64 ticks] w fun e w' => e = .returned (.int .i64 1) ∧ w = w' := by
  go_enter Try.func9, Try.ntmps9
  go_wp2_with fail
  refine (start_no b name ticks ticks _ hf).mono ?_
  rintro e w' ⟨rfl, rfl⟩
  go_wp2_with fail
  go_ret
  exact ⟨rfl, rfl⟩
theorem every_nil (name ticks : Int) (w : World) :
    Calls Try.prog 9 #[.pointer none, .int .i64 name, .int .i64 ticks] w fun e w' => e = .returned (.int .i64 17) ∧ w = w' := by
  go_enter Try.func9, Try.ntmps9
  go_wp2_with fail
  refine (start_nil name ticks ticks _).mono ?_
  rintro e w' ⟨rfl, rfl⟩
  go_wp2_with fail
  go_ret
  exact ⟨rfl, rfl⟩

/-- What runs out, as numbers. -/
def tickZ (L : Nat → Int) : List Int := (tickOut L).map fun i : Nat => (i : Int)

theorem Ints.upd {w w' : World} {S : Nat → Prop} {a : Option Addr} {l : List Int} (h : Ints w a l) (hu : Upd S w w') (hn : ∀ k, blk a = some k → ¬ S k) : Ints w' a l := by
  rcases h with h | ⟨b, off, rfl, hc⟩
  · exact .inl h
  · exact .inr ⟨b, off, rfl, fun i hi => hu.cell_some (hc i hi) (hn b rfl)⟩

theorem Ints.built {w : World} {g : Nat} {cs : Array Value} {t : TypeId} {l : List Int} (h : w.heap[g]? = some (.cells cs t (0, 0))) (hc : ∀ i (hi : i < l.length), cs[i]? = some (.int .i64 l[i])) : Ints w (some ⟨g, 0, none⟩) l :=
  .inr ⟨g, 0, rfl, fun i hi => by rw [Nat.zero_add, World.cell?, h]; exact hc i hi⟩

theorem tickZ_len (L : Nat → Int) : (tickZ L).length ≤ 16 := by
  unfold tickZ tickOut
  rw [List.length_map]
  exact Nat.le_trans (List.length_filter_le _ _) (by simp)

theorem tick_ints (b : Nat) (L A : Nat → Int) (w : World) (h : Clk w b L A) (hL : ∀ i, i < 16 → L i ≤ 1048576) :
    Calls Try.prog 11 #[.pointer (some ⟨b, 0, none⟩)] w fun e w' =>
      ∃ a cap, e = .returned (.slice a (tickZ L).length cap) ∧ Ints w' a (tickZ L) ∧ (∀ k, blk a = some k → w.heap.size ≤ k) ∧ Clk w' b (tickL L A) A ∧ Upd (· = b) w w' := by
  refine (tick_any b L A w h hL).mono ?_
  rintro e w' ⟨v, rfl, hown, hC, hu⟩
  have hlen : (tickZ L).length = (tickOut L).length := by simp [tickZ]
  by_cases h0 : (tickOut L).length = 0
  · obtain ⟨a, cap, rfl⟩ := row_slice hown
    refine ⟨a, cap, by rw [hlen], .inl (List.length_eq_zero_iff.1 (by omega)), ?_, hC, hu⟩
    intro k hk
    rcases hown.2 with ⟨e1, e2⟩ | ⟨g, cap', cur, e1, hb, _⟩
    · injection e1 with e1 _ _; subst e1; simp [blk] at hk
    · injection e1 with e1 _ _; subst e1; simp [blk] at hk; omega
  · obtain ⟨g, cap, rfl, hg, hglt⟩ := own_shape hown (by omega)
    refine ⟨_, cap, by rw [hlen], .inr ⟨g, 0, rfl, fun i hi => ?_⟩, ?_, hC, hu⟩
    · rw [Nat.zero_add, hown.cellAt i (by omega)]
      simp [iv, tickZ] at hi ⊢
      exact ⟨_, List.getElem?_eq_getElem hi, rfl⟩
    · intro k hk; simp [blk] at hk; omega

theorem _root_.Go.RowKit.Below.updTo {B b : Nat} {w w1 w2 : World} (h : Below B w w1) (hu : Upd (· = b) w1 w2) (hb : B ≤ b) (hB : B ≤ w1.heap.size) : Below B w w2 :=
  h.trans (hu.toBelow hB (fun i hi e => by omega))

set_option maxHeartbeats 1000000 in
theorem known_any (w : World) : Calls Try.prog 13 #[] w fun e w' => e = .returned (.bool true) ∧ Below w.heap.size w w' := by
  go_enter Try.func13, Try.ntmps13
  go_wp2_with fail
  refine (new_any _).mono ?_
  rintro e w1 ⟨rfl, hC, hB, hlt⟩
  have HC := Lib.hid hC
  clear hC
  generalize hb0 : w.heap.size = b at hB hlt HC ⊢
  go_wp2_with fail
  refine (set_ok b 3 2 _ _ _ HC.out (by unfold fits; omega)).mono ?_
  rintro e w2 ⟨rfl, hC, hu1⟩
  clear HC
  have HC := Lib.hid hC
  clear hC
  go_wp2_with fail
  refine (every_ok b 1 1 _ _ _ HC.out (by unfold fits; omega)).mono ?_
  rintro e w3 ⟨rfl, hC, hu2⟩
  clear HC
  have HC := Lib.hid hC
  clear hC
  go_wp2_with fail
  refine (tick_ints b _ _ _ HC.out (fun i hi => by unfold setF zeroF; (repeat' split) <;> omega)).mono ?_
  rintro e w4 ⟨ax, cx, rfl, hx, hxb, hC, hu3⟩
  clear HC
  have HC := Lib.hid hC
  have HX := Lib.hid hx
  clear hC hx
  have e1 : tickZ (setF (setF zeroF 3 2) 1 1) = [1] := by decide +kernel
  rw [e1] at HX ⊢
  go_wp2_with fail
  refine (tick_ints b _ _ _ HC.out (fun i hi => by unfold tickL setF zeroF; (repeat' split) <;> omega)).mono ?_
  rintro e w5 ⟨ay, cy, rfl, hy, hyb, hC, hu4⟩
  clear HC
  have HC := Lib.hid hC
  have HY := Lib.hid hy
  clear hC hy
  have e2 : tickZ (tickL (setF (setF zeroF 3 2) 1 1) (setF (setF zeroF 3 0) 1 1)) = [1, 3] := by decide +kernel
  rw [e2] at HY ⊢
  go_wp2_with fail
  refine (tick_ints b _ _ _ HC.out (fun i hi => by simp only [tickL]; unfold setF zeroF; (repeat' split) <;> omega)).mono ?_
  rintro e w6 ⟨az, cz, rfl, hz, hzb, hC, hu5⟩
  clear HC
  have HC := Lib.hid hC
  have HZ := Lib.hid hz
  clear hC hz
  have e3 : tickZ (tickL (tickL (setF (setF zeroF 3 2) 1 1) (setF (setF zeroF 3 0) 1 1)) (setF (setF zeroF 3 0) 1 1)) = [1] := by decide +kernel
  rw [e3] at HZ ⊢
  have s1 := hu1.size; have s2 := hu2.size; have s3 := hu3.size; have s4 := hu4.size; have s5 := hu5.size
  have HB := Lib.hid (((((hB.updTo hu1 (Nat.le_refl _) (by omega)).updTo hu2 (Nat.le_refl _) (by omega)).updTo hu3 (Nat.le_refl _) (by omega)).updTo hu4 (Nat.le_refl _) (by omega)).updTo hu5 (Nat.le_refl _) (by omega))
  have HX' := Lib.hid ((HX.out.upd hu4 (fun k hk e => by have := hxb k hk; omega)).upd hu5 (fun k hk e => by have := hxb k hk; omega))
  have HY' := Lib.hid (HY.out.upd hu5 (fun k hk e => by have := hyb k hk; omega))
  have hlt6 : b < w6.heap.size := by omega
  clear HX HY hB hu1 hu2 hu3 hu4 hu5 s1 s2 s3 s4 s5 hxb hyb hzb e1 e2 e3
  go_wp2_with fail
  refine (ints_any [1] [1] ax _ cx 1 _ (by unfold maxLen; decide) (by unfold maxLen; decide) (HX'.out.below ((Below.refl _ _).alloc (Nat.le_refl _) _)) (Ints.built (heap_alloc_new _ _) (by intro i hi; have : i = 0 := (by simpa using hi); subst this; rfl))).mono ?_
  rintro e w7 ⟨rfl, hb7⟩
  have hb7 := ((Below.refl w6.heap.size w6).alloc (Nat.le_refl _) _).trans (hb7.mono (by simp))
  go_wp2_with fail
  refine (ints_any [1, 3] [1, 3] ay _ cy 2 _ (by unfold maxLen; decide) (by unfold maxLen; decide) ((HY'.out.below hb7).below ((Below.refl _ _).alloc (Nat.le_refl _) _)) (Ints.built (heap_alloc_new _ _) (by intro i hi; have : i = 0 ∨ i = 1 := (by simp at hi; omega); rcases this with rfl | rfl <;> rfl))).mono ?_
  rintro e w8 ⟨rfl, hb8⟩
  have hb8 := hb7.trans (((Below.refl w7.heap.size w7).alloc (Nat.le_refl _) _).trans (hb8.mono (by simp)) |>.mono hb7.size)
  go_wp2_with fail
  refine (ints_any [1] [1] az _ cz 1 _ (by unfold maxLen; decide) (by unfold maxLen; decide) ((HZ.out.below hb8).below ((Below.refl _ _).alloc (Nat.le_refl _) _)) (Ints.built (heap_alloc_new _ _) (by intro i hi; have : i = 0 := (by simpa using hi); subst this; rfl))).mono ?_
  rintro e w9 ⟨rfl, hb9⟩
  have hb9 := hb8.trans (((Below.refl w8.heap.size w8).alloc (Nat.le_refl _) _).trans (hb9.mono (by simp)) |>.mono hb8.size)
  go_wp2_with fail
  refine (set_no b 16 1 _ (by unfold fits; omega)).mono ?_
  rintro e w10 ⟨rfl, rfl⟩
  go_wp2_with fail
  go_ret
  exact ⟨rfl, by rw [hb0]; exact HB.out.trans (hb9.mono (by omega))⟩
end Go.Proofs.Ytcicmpegajahkaa
