/-
  CONTRACTS: Sum, Right, the reference's Sum, Join, Count, and what is known of fixed calls.
-/
import Derived.Test.YtgbjdejbldifcaaOn
import Derived.Test.YtgbjdejbldifcaaLent
import Derived.Lib.SlBytesConst
set_option linter.unusedSimpArgs false
set_option linter.unusedVariables false
namespace Go.Proofs.Ytgbjdejbldifcaa
open Go.RowKit

theorem sum_any (l : List UInt8) (a : Option Addr) (cap : Nat) (w : World) (hl : l.length ≤ maxLen) (hB : Bytes w a l) :
    Calls Try.prog 11 #[.slice a l.length cap] w fun e w' => e = .returned (.int .u16 (Crc.on 0#16 l).toNat) ∧ Below w.heap.size w w' := by
  have H := Lib.hid (on_any 0#16 l a cap w hl hB)
  clear hB
  go_enter Try.func11, Try.ntmps11
  go_wp2_with fail
  refine H.out.mono ?_
  rintro e w' ⟨rfl, hb⟩
  go_wp2
  go_ret
  exact ⟨rfl, hb⟩

theorem refSum_any (l : List UInt8) (a : Option Addr) (cap : Nat) (w : World) (hl : l.length ≤ maxLen) (hB : Bytes w a l) :
    Calls Try.prog 12 #[.slice a l.length cap] w fun e w' => e = .returned (.int .u16 (Crc.on 0#16 l).toNat) ∧ w = w' := by
  have H := Lib.hid (refOn_any 0#16 l a cap w hl hB)
  clear hB
  go_enter Try.func12, Try.ntmps12
  go_wp2_with fail
  refine H.out.mono ?_
  rintro e w' ⟨rfl, rfl⟩
  go_wp2
  go_ret
  exact ⟨rfl, rfl⟩

theorem right_any (l : List UInt8) (a : Option Addr) (cap : Nat) (s : BitVec 16) (w : World) (hl : l.length ≤ maxLen) (hB : Bytes w a l) :
    Calls Try.prog 13 #[.slice a l.length cap, .int .u16 s.toNat] w fun e w' => e = .returned (.bool (((Crc.on 0#16 l).toNat : Int) == (s.toNat : Int))) ∧ Below w.heap.size w w' := by
  have H := Lib.hid (sum_any l a cap w hl hB)
  clear hB
  go_enter Try.func13, Try.ntmps13
  go_wp2_with fail
  refine H.out.mono ?_
  rintro e w' ⟨rfl, hb⟩
  go_wp2
  go_ret
  exact ⟨rfl, hb⟩

/-- What an owned row of bytes is as a slice. -/
theorem own_slice {w : World} {base n : Nat} {v : Value} {l : List UInt8} (h : w.ownsRow base 5 1 v n (bv l)) :
    ∃ a cap, v = .slice a l.length cap ∧ Bytes w a l ∧ (a = none → cap = 0) ∧ (∀ k, blk a = some k → base ≤ k) := by
  have hn : l.length = n := by have := h.1; simp [bv] at this; exact this
  rcases h.2 with ⟨rfl, h0⟩ | ⟨g, cap, cur, rfl, hb, _⟩
  · obtain rfl : l = [] := List.length_eq_zero_iff.1 (by omega)
    exact ⟨none, 0, rfl, .inl rfl, fun _ => rfl, fun k hk => by simp [blk] at hk⟩
  · subst hn
    exact ⟨_, cap, rfl, bytes_of_own h l (List.prefix_refl _), fun h => by (cases h), fun k hk => by simp [blk] at hk; omega⟩

set_option maxHeartbeats 800000 in
theorem join_any (l m : List UInt8) (a b : Option Addr) (cap capb : Nat) (w : World) (hl : l.length ≤ 1000000) (hm : m.length ≤ 1000000) (hB : Bytes w a l) (hn : a = none → cap = 0) (hBb : Bytes w b m) (hnb : b = none → capb = 0) :
    Calls Try.prog 15 #[.slice a l.length cap, .slice b m.length capb] w fun e w' => ∃ v, e = .returned v ∧ w'.ownsRow w.heap.size 5 1 v (l.length + m.length) (bv (l ++ m)) ∧ Below w.heap.size w w' := by
  have hown0 := World.ownsRow_nil w w.heap.size 5 1
  have hnil : a = none → l.length = 0 ∧ cap = 0 := fun h => ⟨by rcases hB with rfl | ⟨_, _, e, _⟩ <;> simp_all, hn h⟩
  have hnilb : b = none → m.length = 0 ∧ capb = 0 := fun h => ⟨by rcases hBb with rfl | ⟨_, _, e, _⟩ <;> simp_all, hnb h⟩
  have hnews : ∀ ad, a = some ad → ∀ j u, (bv l)[j]? = some u → w.cell? (ad.add j) = some u := fun ad h => by subst h; exact hB.news
  have H1 := Lib.hid hnil
  have H2 := Lib.hid hnews
  have H3 := Lib.hid hnilb
  have H4 := Lib.hid hBb
  clear hnil hnews hB hn hnilb hBb hnb
  go_enter Try.func15, Try.ntmps15
  go_wp2_with (at_builtin; refine wpList_append_any rfl (.tmp 6) (.tmp 7) 23 rfl w.heap.size 5 (.int .u8 0) 1 1 Try.underlying23 info_u8 rfl (by decide) _ _ _ rfl hown0 a l.length cap (bv l) rfl H1.out (by simp [bv]) H2.out (bv_one l) (by unfold maxLen; omega) (by omega) (Nat.le_refl _) ?_)
  intro v1 w1 hown1 hg1
  try simp only [Nat.zero_add, List.nil_append] at hown1
  have hb1 := (Below.refl w.heap.size w).grown hg1 (Nat.le_refl _) (fun k e => by simp [Value.ownBlock] at e)
  have hsz := hb1.size
  have H5 := Lib.hid (fun ad (h : b = some ad) => (show ∀ j u, (bv m)[j]? = some u → w1.cell? (ad.add j) = some u from by subst h; exact (H4.out.below hb1).news))
  clear hown0
  go_wp2_with (at_builtin; refine wpList_append_any rfl (.tmp 9) (.tmp 10) 23 rfl w.heap.size 5 (.int .u8 0) 1 1 Try.underlying23 info_u8 rfl (by decide) _ _ _ rfl hown1 b m.length capb (bv m) rfl H3.out (by simp [bv]) H5.out (bv_one _) (by unfold maxLen; omega) (by omega) (by omega) ?_)
  intro v2 w2 hown2 hg2
  have hb2 := hb1.grown hg2 (by omega) (fun k e => (hown1.lt k e).1)
  have HH := Lib.hid hown2
  clear hown1 hown2 hg1 hg2
  go_wp2
  go_ret
  exact ⟨v2, rfl, by rw [bv_append]; exact HH.out, hb2⟩

theorem bytes_new (w : World) (l : List UInt8) (C : Array Value) (t : TypeId) (fr : Nat × Nat) (hC : C = (bv l).toArray) : Bytes (w.alloc (.cells C t fr)) (some ⟨w.heap.size, 0, none⟩) l := by
  refine .inr ⟨_, 0, rfl, fun i hi => ?_⟩
  rw [Nat.zero_add, World.cell?_alloc_mark, hC]
  simpa using bv_get l i hi

theorem crc_ascii : Crc.on 0#16 [49, 50, 51, 52, 53, 54, 55, 56, 57] = 12739#16 := by decide +kernel
theorem crc_A : Crc.on 0#16 [65] = 22757#16 := by decide +kernel

theorem known_any (w : World) : Calls Try.prog 7 #[] w fun e w' => e = .returned (.bool true) ∧ Below w.heap.size w w' := by
  have kc := fun (w : World) (C : Array Value) (n c : Nat) => Lib.run_convert_bytes_const (P := Try.prog) w 23 5 C n c Try.underlying23 Try.underlying5
  have h1 : ∀ (w : World) (C : Array Value) (fr : Nat × Nat), C = (bv [49, 50, 51, 52, 53, 54, 55, 56, 57]).toArray → Calls Try.prog 11 #[.slice (some ⟨w.heap.size, 0, none⟩) 9 9] (w.alloc (.cells C 5 fr)) fun e w' => e = .returned (.int .u16 12739) ∧ Below (w.alloc (.cells C 5 fr)).heap.size (w.alloc (.cells C 5 fr)) w' := by
    intro w C fr hC
    have := sum_any _ _ 9 _ (by decide) (bytes_new w [49, 50, 51, 52, 53, 54, 55, 56, 57] C 5 fr hC)
    rw [crc_ascii] at this
    exact this
  have h2 : ∀ w, Calls Try.prog 11 #[.slice none 0 0] w fun e w' => e = .returned (.int .u16 0) ∧ Below w.heap.size w w' := fun w => sum_any [] none 0 w (by decide) (.inl rfl)
  have h3 : ∀ (w : World) (C : Array Value) (fr : Nat × Nat), C = (bv [65]).toArray → Calls Try.prog 13 #[.slice (some ⟨w.heap.size, 0, none⟩) 1 1, .int .u16 22757] (w.alloc (.cells C 5 fr)) fun e w' => e = .returned (.bool true) ∧ Below (w.alloc (.cells C 5 fr)).heap.size (w.alloc (.cells C 5 fr)) w' := by
    intro w C fr hC
    have := right_any _ _ 1 22757#16 _ (by decide) (bytes_new w [65] C 5 fr hC)
    rw [crc_A] at this
    exact this
  have H1 := Lib.hid h1
  have H2 := Lib.hid h2
  have H3 := Lib.hid h3
  clear h1 h2 h3
  go_enter Try.func7, Try.ntmps7
  go_wp2_with fail
  refine (H1.out _ _ _ rfl).mono ?_
  rintro e w1 ⟨rfl, hb1⟩
  go_wp2_with fail
  refine (H2.out _).mono ?_
  rintro e w2 ⟨rfl, hb2⟩
  go_wp2_with fail
  refine (H3.out _ _ _ rfl).mono ?_
  rintro e w3 ⟨rfl, hb3⟩
  go_wp2_with fail
  go_ret
  refine ⟨rfl, ?_⟩
  have b1 := ((Below.refl w.heap.size w).alloc (Nat.le_refl _) _).trans (hb1.mono (by simp))
  have b2 := b1.trans (hb2.mono b1.size)
  exact (b2.alloc b2.size _).trans (hb3.mono (by have := b2.size; simp; omega))
end Go.Proofs.Ytgbjdejbldifcaa
