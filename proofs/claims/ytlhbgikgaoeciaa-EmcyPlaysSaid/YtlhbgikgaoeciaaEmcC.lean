/-
  CONTRACTS of octet's Put and of emcy's frame.
-/
import Derived.Test.YtlhbgikgaoeciaaEmcB
import Derived.Deep.RegionLaw
import Derived.Laws.CopyOwn
set_option linter.unusedSimpArgs false
set_option linter.unusedVariables false
namespace Go.Proofs.Ytlhbgikgaoeciaa
open Go.RowKit
attribute [local go_sem] Oper.semAt_some

theorem info5 : (Try.prog.info? 5).map (fun i => (i.zero, i.size, i.bytes)) = some (some (.int .u8 0), 1, 1) := by kernel_rfl
set_option maxRecDepth 100000 in
theorem there2 (w : World) : Calls Try.prog 33 #[.int .i64 2] w fun e w' => e = .returned (.bool true) ∧ w = w' := by
  go_enter Try.func33, Try.ntmps33
  go_wp2_with fail
  go_ret
  exact ⟨rfl, rfl⟩

set_option maxRecDepth 100000 in
set_option maxHeartbeats 2000000 in
theorem put_two (x : Nat) (w : World) (hx : x < 65536) : Calls Try.prog 32 #[.slice none 0 0, .int .i64 2, .int .u64 (x : Int)] w fun e w' => ∃ v, e = .returned (.tuple #[v, .int .i64 0]) ∧ w'.ownsRow w.heap.size 5 1 v 2 [.int .u8 ((x : Int) % 256), .int .u8 ((x : Int) / 256)] ∧ Below w.heap.size w w' := by
  have hx0 : (0 : Int) ≤ (x : Int) := by omega
  have hx1 : (x : Int) < 65536 := by omega
  have hz : (x : Int) / 65536 = 0 := by omega
  go_enter Try.func32, Try.ntmps32
  go_wp2_with fail
  refine (there2 _).mono ?_
  rintro e w1 ⟨rfl, rfl⟩
  obtain ⟨i5, hi5, hz5, hs5, hb5⟩ := info_parts info5
  go_wp2_with (at_make; refine wpList_make_own _ rfl (.tmp 26) (.tmp 30) 47 rfl w.heap.size 5 i5 (.int .u8 0) 1 Try.underlying47 hi5 hz5 hs5 .i64 .i64 2 2 rfl rfl rfl ?b2 ?b3 ?b4 ?_)
  case b2 => rw [hb5]; omega
  case b3 => unfold maxLen; omega
  case b4 => exact Nat.le_refl _
  intro w1 hown hg
  have HO := Lib.hid hown
  have HB := Lib.hid (((Upd.refl (fun _ => False) w).grown hg (fun k e => by cases e)).toBelow (B := w.heap.size) (Nat.le_refl _) (fun _ _ h => h))
  clear hown hg
  go_wp2_with (refine wpList_copy_nothing rfl (.tmp 32) (.tmp 33) 47 47 rfl 5 Try.underlying47 (by kernel_rfl) (some ⟨w.heap.size, 0, none⟩) none 0 2 0 0 rfl rfl rfl ?_)
  go_wp2_with fail
  go_loopg [8, 9, 36] 2 (fun gg v i8 i wr => ∃ k : Nat, k ≤ 2 ∧ gg = 2 - k ∧ i = .int .i64 k ∧ (∃ a c, v = .slice a k c) ∧ wr.ownsRow w.heap.size 5 1 v k ([.int .u8 ((x : Int) % 256), .int .u8 ((x : Int) / 256)].take k) ∧ Below w.heap.size w wr)
  case atStart => exact ⟨0, by omega, by omega, rfl, ⟨_, _, rfl⟩, HO.out, HB.out⟩
  case round =>
    obtain ⟨k, hk, hg, rfl, ⟨a, c, rfl⟩, hown, hB⟩ := hrel
    have HOr := Lib.hid hown
    have HBr := Lib.hid hB
    have hws := hB.size
    have hc := hown
    clear hown hB HO HB hc
    have hk3 : k = 0 ∨ k = 1 ∨ k = 2 := by omega
    rcases hk3 with rfl | rfl | rfl
    · go_wp2_with (at_builtin; refine wpList_append_any rfl (.tmp 39) (.tmp 46) 47 rfl w.heap.size 5 (.int .u8 0) 1 1 Try.underlying47 info5 rfl (by decide) _ _ _ rfl (HOr.out.alloc _) (some ⟨wr.heap.size, 0, none⟩) 1 1 [.int .u8 ((x : Int) % 256)] rfl (fun h => by cases h) (by simp) ?c1 ?c2 ?c3 ?c4 ?c5 ?_)
      case c1 =>
        intro ad e i u hu
        cases e
        have hnew : (wr.alloc (.cells #[.int .u8 ((x : Int) % 256)] 5)).heap[wr.heap.size]? = some (.cells #[.int .u8 ((x : Int) % 256)] 5 (0, 0)) := heap_alloc_new _ _
        rw [Addr.add_lit, Nat.zero_add]
        match i, hu with
        | 0, hu => simp at hu; subst hu; exact cells1 hnew
      case c2 => intro u hu; simp at hu; subst hu; rfl
      case c3 => unfold maxLen; omega
      case c4 => omega
      case c5 => simp; omega
      intro v' w2 hown hg
      have HO2 := Lib.hid hown
      have HU2 := Lib.hid (((Upd.ofBelow HBr.out).alloc (.cells #[.int .u8 ((x : Int) % 256)] 5)).grown hg (fun k e _ => (HOr.out.lt k e).1))
      clear hown hg
      go_wp2_with fail
      go_roundg 1
      case measure => omega
      case rel => exact ⟨1, by omega, rfl, by go_num, (by rcases HO2.out.2 with ⟨_, h0⟩ | ⟨g, cap, cur, rfl, _⟩; (· cases h0); (· exact ⟨_, _, rfl⟩)), by simpa using HO2.out, HU2.out.toBelow (Nat.le_refl _) (fun i hi hs => by omega)⟩
    · have hm : (x : Int) / 256 % 256 = (x : Int) / 256 := by omega
      go_wp2_with (at_builtin; refine wpList_append_any rfl (.tmp 39) (.tmp 46) 47 rfl w.heap.size 5 (.int .u8 0) 1 1 Try.underlying47 info5 rfl (by decide) _ _ _ rfl (HOr.out.alloc _) (some ⟨wr.heap.size, 0, none⟩) 1 1 [.int .u8 ((x : Int) / 256)] rfl (fun h => by cases h) (by simp) ?c1 ?c2 ?c3 ?c4 ?c5 ?_)
      case c1 =>
        intro ad e i u hu
        cases e
        have hnew : (wr.alloc (.cells #[.int .u8 ((x : Int) / 256)] 5)).heap[wr.heap.size]? = some (.cells #[.int .u8 ((x : Int) / 256)] 5 (0, 0)) := heap_alloc_new _ _
        rw [Addr.add_lit, Nat.zero_add]
        match i, hu with
        | 0, hu => simp at hu; subst hu; exact cells1 hnew
      case c2 => intro u hu; simp at hu; subst hu; rfl
      case c3 => unfold maxLen; omega
      case c4 => omega
      case c5 => simp; omega
      intro v' w2 hown hg
      have HO2 := Lib.hid hown
      have HU2 := Lib.hid (((Upd.ofBelow HBr.out).alloc (.cells #[.int .u8 ((x : Int) / 256)] 5)).grown hg (fun k e _ => (HOr.out.lt k e).1))
      clear hown hg
      go_wp2_with fail
      go_roundg 0
      case measure => omega
      case rel => exact ⟨2, by omega, rfl, by go_num, (by rcases HO2.out.2 with ⟨_, h0⟩ | ⟨g, cap, cur, rfl, _⟩; (· cases h0); (· exact ⟨_, _, rfl⟩)), by simpa using HO2.out, HU2.out.toBelow (Nat.le_refl _) (fun i hi hs => by omega)⟩
    · go_wp2_with fail
      go_ret2
      exact ⟨_, rfl, by simpa using HOr.out, HBr.out⟩

/-- The bytes of an emergency frame. -/
def emB (x r i : Int) : List Value := [.int .u8 (x % 256), .int .u8 (x / 256), .int .u8 (r % 256), .int .u8 (i % 256), .int .u8 0, .int .u8 0, .int .u8 0, .int .u8 0]
/-- One emergency frame in block g, its bytes in block d. -/
def EmF (w : World) (lo g : Nat) (id x r i : Int) : Prop := ∃ d c, w.heap[g]? = some (.cells #[.int .i64 id, .bool false, .slice (some ⟨d, 0, none⟩) 8 c] 49 (0, 0)) ∧ lo ≤ d ∧ Lax w 5 1 (.slice (some ⟨d, 0, none⟩) 8 c) 8 (emB x r i)

theorem z4_is : (Builtin.zeroCells (Value.int .u8 0).cells 4).toList = [.int .u8 0, .int .u8 0, .int .u8 0, .int .u8 0] := by kernel_rfl
theorem z4_one : ∀ u ∈ (Builtin.zeroCells (Value.int .u8 0).cells 4).toList, u.oneCell' = true := by
  rw [z4_is]
  intro u hu; simp at hu; subst hu; rfl

set_option maxRecDepth 100000 in
set_option maxHeartbeats 4000000 in
theorem frame_any (b : Nat) (id : Int) (av hv : Value) (fs : List (Int × Int)) (hs : List Int) (x : Nat) (i : Int) (w : World) (h : Emc w b id av hv fs hs) (hx : x < 65536) :
    Calls Try.prog 26 #[.pointer (some ⟨b, 0, none⟩), .int .i64 (x : Int), .int .i64 i] w fun e w' => ∃ g, e = .returned (.slice (some ⟨g, 0, none⟩) 1 1) ∧ w.heap.size ≤ g ∧ EmF w' w.heap.size g id x (regC fs) i ∧ Below w.heap.size w w' := by
  have hx0 : (0 : Int) ≤ (x : Int) := by omega
  have hx1 : (x : Int) < 65536 := by omega
  have HE := Lib.hid h
  have hbl := h.lt
  clear h
  go_enter Try.func26, Try.ntmps26
  go_wp2_with fail
  refine (put_two x _ hx).mono ?_
  rintro e w2 ⟨v, rfl, hown, hb2⟩
  have HO2 := Lib.hid hown
  have HB2 := Lib.hid hb2
  have HE2 := Lib.hid (HE.out.below hb2)
  have s2 := hb2.size
  clear hb2 hown
  go_wp2_with fail
  refine (register_any b id av hv fs hs w2 HE2.out).mono ?_
  rintro e w3 ⟨rfl, hb3⟩
  have HO3 := Lib.hid (own_below HO2.out hb3)
  have HB3 := Lib.hid (bstep (B := w.heap.size) (w := w) hb3 HB2.out (Nat.le_refl _))
  have HE3 := Lib.hid (HE2.out.below hb3)
  have s3 := hb3.size
  clear hb3 HO2 HE2 HB2
  generalize hr : regC fs = r at *
  have HRG := Lib.hid hr
  clear hr
  go_wp2_with (at_builtin; refine wpList_append_any rfl (.tmp 15) (.tmp 21) 47 rfl w.heap.size 5 (.int .u8 0) 1 1 Try.underlying47 info5 rfl (by decide) _ _ _ rfl (HO3.out.alloc _) (some ⟨w3.heap.size, 0, none⟩) 2 2 [.int .u8 (r % 256), .int .u8 (i % 256)] rfl (fun h => by cases h) (by simp) ?c1 ?c2 ?c3 ?c4 ?c5 ?_)
  case c1 =>
    intro ad e j u hu
    cases e
    have hnew : (w3.alloc (.cells #[.int .u8 (r % 256), .int .u8 (i % 256)] 5)).heap[w3.heap.size]? = some (.cells #[.int .u8 (r % 256), .int .u8 (i % 256)] 5 (0, 0)) := heap_alloc_new _ _
    obtain ⟨n0, n1⟩ := cells2 hnew
    rw [Addr.add_lit, Nat.zero_add]
    match j, hu with
    | 0, hu => simp at hu; subst hu; exact n0
    | 1, hu => simp at hu; subst hu; exact n1
  case c2 => intro u hu; simp at hu; rcases hu with rfl | rfl <;> rfl
  case c3 => unfold maxLen; omega
  case c4 => omega
  case c5 => simp; omega
  intro v' w4 hown hg
  obtain ⟨gd, cap, rfl, hgd, hgl⟩ := own_shape hown (by omega)
  have HL4 := Lib.hid (Lax.of_own hown)
  have hlt := HO3.out.lt
  have HU4 := Lib.hid (((Upd.ofBelow HB3.out).alloc (.cells #[.int .u8 (r % 256), .int .u8 (i % 256)] 5)).grown hg (fun k e _ => (hlt k e).1))
  have hE4 : w4.heap[b]? = some (.cells #[.int .i64 id, av, hv] 62 (0, 0)) := (hg.block b (by simp; omega) (fun e => by have := (hlt b e.symm).1; omega)).trans (akeep _ HE3.out.1)
  obtain ⟨c0, c1, c2⟩ := cells3' hE4
  have HE4 := Lib.hid hE4
  have hbg : b < gd := by omega
  have c0d : w4.drew.cell? ⟨b, 0, none⟩ = some (.int .i64 id) := c0
  clear hown hg hlt hE4 c1 c2
  go_wp2_with fail
  go_region_law (refine step_append_zeros 4 rfl (.tmp 27) (.tmp 30) 47 3 rfl 5 (.int .u8 0) 1 1 Try.underlying47 Try.underlying3 info5 rfl (by decide) z4_one (.slice (some ⟨gd, 0, none⟩) 4 cap) 4 _ rfl (Lax.keep HL4.out (fun _ _ => rfl)) (by omega) rfl (by omega) (by unfold maxLen; omega) (by omega) ?_; intro g5 cap5 w5 hl5 hg5 hd5; have c5 : w5.cell? ⟨b, 0, none⟩ = some (.int .i64 id) := hg5.cell c0d (fun e => by simp [Value.ownBlock] at e; omega))
  all_goals
    have hg5s : gd = g5 ∨ g5 = w4.heap.size := hd5.imp (fun e => by simpa [Value.ownBlock] using e) (fun e => e)
    have hl5' : Lax w5 5 1 (.slice (some ⟨g5, 0, none⟩) 8 cap5) 8 (emB x r i) := by
      rw [z4_is] at hl5
      exact hl5
    have HL5 := Lib.hid hl5'
    have HU5 := Lib.hid (HU4.out.drew.grown hg5 (fun k e _ => by simp [Value.ownBlock] at e; omega))
    have hw5 := hg5.size
    clear hl5 hg5 hd5 hl5' c5
    go_wp2_with fail
    go_ret
    rw [HRG.out]
    refine ⟨w5.heap.size, rfl, ?_, ⟨g5, cap5, heap_alloc_new _ _, ?_, HL5.out.below ((Below.refl _ w5).alloc (Nat.le_refl _) _)⟩, (HU5.out.alloc _).toBelow (Nat.le_refl _) (fun k hk hs => by omega)⟩
    · have := HU5.out.size; omega
    · have : w4.drew.heap.size = w4.heap.size := rfl
      have := HU4.out.size
      omega
end Go.Proofs.Ytlhbgikgaoeciaa
