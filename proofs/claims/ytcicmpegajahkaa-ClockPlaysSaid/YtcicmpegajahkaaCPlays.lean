/-
  LAW ClockPlays: the walk.
-/
import Derived.Test.YtcicmpegajahkaaRTick
import Derived.Test.YtcicmpegajahkaaOnce
import Derived.Deep.RegionHeld3
set_option linter.unusedSimpArgs false
set_option linter.unusedVariables false
namespace Go.Proofs.Ytcicmpegajahkaa
open Go.RowKit
attribute [local go_sem] Oper.semAt_some

/-- Two clocks that are alike. -/
def Good (L A A' : Nat → Int) : Prop := ∀ i, i < 16 → (0 ≤ L i ∧ L i ≤ 1048576) ∧ (0 ≤ A i ∧ A i ≤ 1048576) ∧ (0 ≤ A' i ∧ A' i ≤ 1048576) ∧ (0 < L i → A i = A' i)
theorem Good.set {L A A' : Nat → Int} (h : Good L A A') (name x y : Int) (hx : 0 ≤ x ∧ x ≤ 1048576) (hy : 0 ≤ y ∧ y ≤ 1048576) : Good (setF L name x) (setF A name y) (setF A' name y) := fun i hi => by
  obtain ⟨h1, h2, h3, h4⟩ := h i hi
  unfold setF
  by_cases c : (i : Int) = name
  · rw [if_pos c, if_pos c, if_pos c]; exact ⟨hx, hy, hy, fun _ => rfl⟩
  · rw [if_neg c, if_neg c, if_neg c]; exact ⟨h1, h2, h3, h4⟩
theorem Good.stop {L A A' : Nat → Int} (h : Good L A A') (name : Int) : Good (setF L name 0) (setF A name 0) A' := fun i hi => by
  obtain ⟨h1, h2, h3, h4⟩ := h i hi
  unfold setF
  by_cases c : (i : Int) = name
  · rw [if_pos c, if_pos c]; exact ⟨by omega, by omega, h3, fun k => by omega⟩
  · rw [if_neg c, if_neg c]; exact ⟨h1, h2, h3, h4⟩
theorem Good.tick {L A A' : Nat → Int} (h : Good L A A') : Good (tickL L A) A A' := fun i hi => by
  obtain ⟨h1, h2, h3, h4⟩ := h i hi
  refine ⟨?_, h2, h3, ?_⟩
  · unfold tickL; (repeat' split) <;> omega
  · intro k
    unfold tickL at k
    by_cases c : 0 < L i
    · exact h4 c
    · rw [if_neg c] at k; omega
theorem Good.same {L A A' : Nat → Int} (h : Good L A A') : ∀ i, i < 16 → tickL L A' i = tickL L A i := fun i hi => by
  obtain ⟨h1, h2, h3, h4⟩ := h i hi
  unfold tickL
  by_cases c : 0 < L i
  · rw [if_pos c, if_pos c, h4 c]
  · rw [if_neg c, if_neg c]

/-- Where the play stands: the clock in block b, the document's in block c. -/
def PlayI (w : World) (c b : Nat) (wr : World) : Prop := ∃ L A A', Clk wr b L A ∧ RClk wr c L A' ∧ Good L A A' ∧ w.heap.size ≤ b ∧ w.heap.size ≤ c ∧ b ≠ c ∧ Below w.heap.size w wr

theorem below2 {B : Nat} {w w1 w2 : World} {b : Nat} (h : Below B w w1) (hu : Upd (· = b) w1 w2) (hb : B ≤ b) (hB : B ≤ w.heap.size) : Below B w w2 :=
  h.trans (hu.toBelow (Nat.le_trans hB h.size) (fun i hi (e : i = b) => by omega))

set_option maxRecDepth 100000 in
set_option maxHeartbeats 16000000 in
theorem cplays_walk (a : Option Addr) (len cap : Nat) (w : World) (hlen : (len : Int) ≤ 9223372036854775807) (hO : Ops w a len) :
    Calls Try.prog 5 #[.slice a len cap] w fun e w' => e = .returned (.bool true) ∧ Below w.heap.size w w' := by
  have HO := Lib.hid hO
  clear hO
  go_enter Try.func5, Try.ntmps5
  go_wp2_with fail
  refine (new_any _).mono ?_
  rintro e w1 ⟨rfl, hC, hB, hlt⟩
  have HC := Lib.hid hC
  have HB := Lib.hid hB
  clear hC hB
  obtain ⟨cz, hcz⟩ : ∃ cz : Array Value, cz = #[.int .i64 0, .int .i64 0, .int .i64 0, .int .i64 0, .int .i64 0, .int .i64 0, .int .i64 0, .int .i64 0, .int .i64 0, .int .i64 0, .int .i64 0, .int .i64 0, .int .i64 0, .int .i64 0, .int .i64 0, .int .i64 0, .int .i64 0, .int .i64 0, .int .i64 0, .int .i64 0, .int .i64 0, .int .i64 0, .int .i64 0, .int .i64 0, .int .i64 0, .int .i64 0, .int .i64 0, .int .i64 0, .int .i64 0, .int .i64 0, .int .i64 0, .int .i64 0] := ⟨_, rfl⟩
  have HR0 : Hid (RClk (w1.alloc (.cells #[.int .i64 0, .int .i64 0, .int .i64 0, .int .i64 0, .int .i64 0, .int .i64 0, .int .i64 0, .int .i64 0, .int .i64 0, .int .i64 0, .int .i64 0, .int .i64 0, .int .i64 0, .int .i64 0, .int .i64 0, .int .i64 0, .int .i64 0, .int .i64 0, .int .i64 0, .int .i64 0, .int .i64 0, .int .i64 0, .int .i64 0, .int .i64 0, .int .i64 0, .int .i64 0, .int .i64 0, .int .i64 0, .int .i64 0, .int .i64 0, .int .i64 0, .int .i64 0] 41)) w1.heap.size zeroF zeroF) := rclk_new w1 _ rfl
  have HC0 : Hid (Clk (w1.alloc (.cells #[.int .i64 0, .int .i64 0, .int .i64 0, .int .i64 0, .int .i64 0, .int .i64 0, .int .i64 0, .int .i64 0, .int .i64 0, .int .i64 0, .int .i64 0, .int .i64 0, .int .i64 0, .int .i64 0, .int .i64 0, .int .i64 0, .int .i64 0, .int .i64 0, .int .i64 0, .int .i64 0, .int .i64 0, .int .i64 0, .int .i64 0, .int .i64 0, .int .i64 0, .int .i64 0, .int .i64 0, .int .i64 0, .int .i64 0, .int .i64 0, .int .i64 0, .int .i64 0] 41)) w.heap.size zeroF zeroF) := HC.out.upd ((Upd.refl (fun _ => False) w1).alloc _) (fun h => h)
  have HB0 : Hid (Below w.heap.size w (w1.alloc (.cells #[.int .i64 0, .int .i64 0, .int .i64 0, .int .i64 0, .int .i64 0, .int .i64 0, .int .i64 0, .int .i64 0, .int .i64 0, .int .i64 0, .int .i64 0, .int .i64 0, .int .i64 0, .int .i64 0, .int .i64 0, .int .i64 0, .int .i64 0, .int .i64 0, .int .i64 0, .int .i64 0, .int .i64 0, .int .i64 0, .int .i64 0, .int .i64 0, .int .i64 0, .int .i64 0, .int .i64 0, .int .i64 0, .int .i64 0, .int .i64 0, .int .i64 0, .int .i64 0] 41))) := HB.out.alloc (by omega) _
  clear HC HB hcz
  clear cz
  go_wp2_with fail
  go_loopw [3, 5] (fun p i wr => ∃ k : Nat, k ≤ 100 ∧ i = .int .i64 k ∧ ∃ b : Nat, p = .pointer (some ⟨b, 0, none⟩) ∧ PlayI w w1.heap.size b wr) (fun _ i _ => 100 - (intOf i).toNat)
  case atStart => exact ⟨0, by omega, rfl, w.heap.size, rfl, zeroF, zeroF, zeroF, HC0.out, HR0.out, (fun i hi => by unfold zeroF; omega), Nat.le_refl _, by omega, by omega, HB0.out⟩
  case round =>
    obtain ⟨k, hk, rfl, b, rfl, L, A, A', hC, hR, hG, hbw, hcw, hbc, hB⟩ := hrel
    have HC := Lib.hid hC
    have HR := Lib.hid hR
    have HG := Lib.hid hG
    have HB := Lib.hid hB
    clear hC hR hG hB HR0 HC0 HB0
    generalize w1.heap.size = c at *
    have hbl := HC.out.lt
    have hcl := HR.out.lt
    have hwl := HB.out.size
    by_cases hk1 : k < len ∧ k < 100
    · obtain ⟨hk1, hk2⟩ := hk1
      obtain ⟨lb, off, rfl, hlb, hops⟩ : ∃ lb off, a = some ⟨lb, off, none⟩ ∧ lb < w.heap.size ∧ ∀ i, i < len → ∃ x y z : Int, ElemAt w lb off 3 i [.int .i64 x, .int .i64 y, .int .i64 z] := by
        rcases HO.out with h0 | h0
        · omega
        · exact h0
      obtain ⟨x, y, z, he⟩ := hops k hk1
      obtain ⟨e0, e1, e2⟩ := elem3 (he.below HB.out)
      have d1 : (k : Int) < (len : Int) := by omega
      have d2 : (k : Int) < 100 := by omega
      have hlw : lb < wr.heap.size := by omega
      clear hops he
      have HCA : Hid (∀ X : Obj, Clk (wr.alloc X) b L A) := fun X => HC.out.upd ((Upd.refl (fun _ => False) wr).alloc X) (fun h => h)
      have HRA : Hid (∀ X : Obj, RClk (wr.alloc X) c L A') := fun X => HR.out.upd ((Upd.refl (fun _ => False) wr).alloc X) (fun h => h)
      have HCD : Hid (∀ X : Obj, Clk (wr.alloc X).drew b L A) := fun X => HCA.out X
      have HRD : Hid (∀ X : Obj, RClk (wr.alloc X).drew c L A') := fun X => HRA.out X
      have HBA : Hid (∀ X : Obj, Below w.heap.size w (wr.alloc X)) := fun X => HB.out.alloc hwl X
      by_cases x0 : x = 0
      · subst x0
        by_cases hf : fits y z
        · have HFi := Lib.hid hf
          have hz1 : 1 ≤ z := hf.2.2.1
          have hz2 : z ≤ 1048576 := hf.2.2.2
          clear hf
          have o1 : (wr.alloc (.cells #[.int .i64 0, .int .i64 y, .int .i64 z] 28)).cell? ⟨wr.heap.size, 1, none⟩ = some (.int .i64 y) := (cells3' (heap_alloc_new wr _)).2.1
          have o2 : (wr.alloc (.cells #[.int .i64 0, .int .i64 y, .int .i64 z] 28)).cell? ⟨wr.heap.size, 2, none⟩ = some (.int .i64 z) := (cells3' (heap_alloc_new wr _)).2.2
          go_wp2_with fail
          go_region_held3 (fun w' => w'.cell? ⟨wr.heap.size, 1, none⟩ = some (.int .i64 y) ∧ w'.cell? ⟨wr.heap.size, 2, none⟩ = some (.int .i64 z))
            (first
              | go_keep
              | (go_split_ands; exact ⟨hu5.cell_some (by first | assumption | (simp [*]; done)) (by show ¬ wr.heap.size = b; omega), hu5.cell_some (by first | assumption | (simp [*]; done)) (by show ¬ wr.heap.size = b; omega)⟩)
              | (go_split_ands; exact ⟨hu6.cell_some (by first | assumption | (simp [*]; done)) (by show ¬ wr.heap.size = c; omega), hu6.cell_some (by first | assumption | (simp [*]; done)) (by show ¬ wr.heap.size = c; omega)⟩))
            (first
              | (go_at_call 8; refine (set_ok b y z L A _ ?_ HFi.out).mono ?_; (first | exact (HCA.out _) | exact (HCD.out _).upd hu6 (by show ¬ b = c; omega)); rintro e w5 ⟨rfl, hC5, hu5⟩)
              | (go_at_call 15; refine (rset_ok c y z L A' _ ?_ HFi.out).mono ?_; (first | exact (HRA.out _) | exact (HRD.out _).upd hu5 (by show ¬ c = b; omega)); rintro e w6 ⟨rfl, hR6, hu6⟩))
          · have hP : PlayI w c b w6 := ⟨_, _, _, Clk.upd (w := w5) hC5 hu6 (by show ¬ b = c; omega), hR6, HG.out.set y z 0 (by omega) (by omega), hbw, hcw, hbc, below2 (below2 (w1 := (wr.alloc (.cells #[.int .i64 0, .int .i64 y, .int .i64 z] 28)).drew) (HBA.out _).drew hu5 hbw (Nat.le_refl _)) hu6 hcw (Nat.le_refl _)⟩
            clear hC5 hR6 hu5 hu6
            obtain ⟨L2, A2, A2', hC2, hR2, hG2, hbw2, hcw2, hbc2, hB2⟩ := hP
            have HC2 := Lib.hid hC2
            have HR2 := Lib.hid hR2
            have HG2 := Lib.hid hG2
            have HB2 := Lib.hid hB2
            clear hC2 hR2 hG2 hB2
            go_wp2_with fail
            refine (next_any b L2 A2 _ HC2.out).mono ?_
            rintro e w8 ⟨rfl, hb8⟩
            have HC8 := Lib.hid (HC2.out.upd (Upd.ofBelow' (S := fun _ => False) hb8) (fun h => h))
            have HR8 := Lib.hid (HR2.out.upd (Upd.ofBelow' (S := fun _ => False) hb8) (fun h => h))
            have HB8 := Lib.hid (HB2.out.trans (hb8.mono HB2.out.size))
            clear hb8
            go_wp2_with fail
            refine (rnext_any c L2 A2' _ HR8.out).mono ?_
            rintro e w9 ⟨rfl, rfl⟩
            generalize nextN L2 = nn at *
            generalize nextB L2 = nb at *
            go_wp2_with fail
            go_roundw
            case rel => exact ⟨k + 1, by omega, by go_num, b, rfl, L2, A2, A2', HC8.out, HR8.out, HG2.out, hbw2, hcw2, hbc2, HB8.out⟩
            case measure => simp [intOf]; omega

        · have HFi := Lib.hid hf
          clear hf
          have o1 : (wr.alloc (.cells #[.int .i64 0, .int .i64 y, .int .i64 z] 28)).cell? ⟨wr.heap.size, 1, none⟩ = some (.int .i64 y) := (cells3' (heap_alloc_new wr _)).2.1
          have o2 : (wr.alloc (.cells #[.int .i64 0, .int .i64 y, .int .i64 z] 28)).cell? ⟨wr.heap.size, 2, none⟩ = some (.int .i64 z) := (cells3' (heap_alloc_new wr _)).2.2
          go_wp2_with fail
          go_quiet ((first | (go_at_call 8; exact Calls.quiet_of_same ((set_no b y z _ HFi.out).mono fun _ _ h => ⟨h.1, h.2.symm⟩)) | (go_at_call 15; exact Calls.quiet_of_same ((rset_no c y z _ HFi.out).mono fun _ _ h => ⟨h.1, h.2.symm⟩))))
          have hP : PlayI w c b ((wr.alloc (.cells #[.int .i64 0, .int .i64 y, .int .i64 z] 28)).drewN nq) := ⟨L, A, A', (HCA.out _).same rfl, (HRA.out _).same rfl, HG.out, hbw, hcw, hbc, below_dn (HBA.out _) _⟩
          obtain ⟨L2, A2, A2', hC2, hR2, hG2, hbw2, hcw2, hbc2, hB2⟩ := hP
          have HC2 := Lib.hid hC2
          have HR2 := Lib.hid hR2
          have HG2 := Lib.hid hG2
          have HB2 := Lib.hid hB2
          clear hC2 hR2 hG2 hB2
          go_wp2_with fail
          refine (next_any b L2 A2 _ HC2.out).mono ?_
          rintro e w8 ⟨rfl, hb8⟩
          have HC8 := Lib.hid (HC2.out.upd (Upd.ofBelow' (S := fun _ => False) hb8) (fun h => h))
          have HR8 := Lib.hid (HR2.out.upd (Upd.ofBelow' (S := fun _ => False) hb8) (fun h => h))
          have HB8 := Lib.hid (HB2.out.trans (hb8.mono HB2.out.size))
          clear hb8
          go_wp2_with fail
          refine (rnext_any c L2 A2' _ HR8.out).mono ?_
          rintro e w9 ⟨rfl, rfl⟩
          generalize nextN L2 = nn at *
          generalize nextB L2 = nb at *
          go_wp2_with fail
          go_roundw
          case rel => exact ⟨k + 1, by omega, by go_num, b, rfl, L2, A2, A2', HC8.out, HR8.out, HG2.out, hbw2, hcw2, hbc2, HB8.out⟩
          case measure => simp [intOf]; omega
      · by_cases x1 : x = 1
        · subst x1
          by_cases hf : fits y z
          · have HFi := Lib.hid hf
            have hz1 : 1 ≤ z := hf.2.2.1
            have hz2 : z ≤ 1048576 := hf.2.2.2
            clear hf
            have o1 : (wr.alloc (.cells #[.int .i64 1, .int .i64 y, .int .i64 z] 28)).cell? ⟨wr.heap.size, 1, none⟩ = some (.int .i64 y) := (cells3' (heap_alloc_new wr _)).2.1
            have o2 : (wr.alloc (.cells #[.int .i64 1, .int .i64 y, .int .i64 z] 28)).cell? ⟨wr.heap.size, 2, none⟩ = some (.int .i64 z) := (cells3' (heap_alloc_new wr _)).2.2
            go_wp2_with fail
            go_region_held3 (fun w' => w'.cell? ⟨wr.heap.size, 1, none⟩ = some (.int .i64 y) ∧ w'.cell? ⟨wr.heap.size, 2, none⟩ = some (.int .i64 z))
              (first
                | go_keep
                | (go_split_ands; exact ⟨hu5.cell_some (by first | assumption | (simp [*]; done)) (by show ¬ wr.heap.size = b; omega), hu5.cell_some (by first | assumption | (simp [*]; done)) (by show ¬ wr.heap.size = b; omega)⟩)
                | (go_split_ands; exact ⟨hu6.cell_some (by first | assumption | (simp [*]; done)) (by show ¬ wr.heap.size = c; omega), hu6.cell_some (by first | assumption | (simp [*]; done)) (by show ¬ wr.heap.size = c; omega)⟩))
              (first
                | (go_at_call 9; refine (every_ok b y z L A _ ?_ HFi.out).mono ?_; (first | exact (HCA.out _) | exact (HCD.out _).upd hu6 (by show ¬ b = c; omega)); rintro e w5 ⟨rfl, hC5, hu5⟩)
                | (go_at_call 16; refine (revery_ok c y z L A' _ ?_ HFi.out).mono ?_; (first | exact (HRA.out _) | exact (HRD.out _).upd hu5 (by show ¬ c = b; omega)); rintro e w6 ⟨rfl, hR6, hu6⟩))
            · have hP : PlayI w c b w6 := ⟨_, _, _, Clk.upd (w := w5) hC5 hu6 (by show ¬ b = c; omega), hR6, HG.out.set y z z (by omega) (by omega), hbw, hcw, hbc, below2 (below2 (w1 := (wr.alloc (.cells #[.int .i64 1, .int .i64 y, .int .i64 z] 28)).drew) (HBA.out _).drew hu5 hbw (Nat.le_refl _)) hu6 hcw (Nat.le_refl _)⟩
              clear hC5 hR6 hu5 hu6
              obtain ⟨L2, A2, A2', hC2, hR2, hG2, hbw2, hcw2, hbc2, hB2⟩ := hP
              have HC2 := Lib.hid hC2
              have HR2 := Lib.hid hR2
              have HG2 := Lib.hid hG2
              have HB2 := Lib.hid hB2
              clear hC2 hR2 hG2 hB2
              go_wp2_with fail
              refine (next_any b L2 A2 _ HC2.out).mono ?_
              rintro e w8 ⟨rfl, hb8⟩
              have HC8 := Lib.hid (HC2.out.upd (Upd.ofBelow' (S := fun _ => False) hb8) (fun h => h))
              have HR8 := Lib.hid (HR2.out.upd (Upd.ofBelow' (S := fun _ => False) hb8) (fun h => h))
              have HB8 := Lib.hid (HB2.out.trans (hb8.mono HB2.out.size))
              clear hb8
              go_wp2_with fail
              refine (rnext_any c L2 A2' _ HR8.out).mono ?_
              rintro e w9 ⟨rfl, rfl⟩
              generalize nextN L2 = nn at *
              generalize nextB L2 = nb at *
              go_wp2_with fail
              go_roundw
              case rel => exact ⟨k + 1, by omega, by go_num, b, rfl, L2, A2, A2', HC8.out, HR8.out, HG2.out, hbw2, hcw2, hbc2, HB8.out⟩
              case measure => simp [intOf]; omega

          · have HFi := Lib.hid hf
            clear hf
            have o1 : (wr.alloc (.cells #[.int .i64 1, .int .i64 y, .int .i64 z] 28)).cell? ⟨wr.heap.size, 1, none⟩ = some (.int .i64 y) := (cells3' (heap_alloc_new wr _)).2.1
            have o2 : (wr.alloc (.cells #[.int .i64 1, .int .i64 y, .int .i64 z] 28)).cell? ⟨wr.heap.size, 2, none⟩ = some (.int .i64 z) := (cells3' (heap_alloc_new wr _)).2.2
            go_wp2_with fail
            go_quiet ((first | (go_at_call 9; exact Calls.quiet_of_same ((every_no b y z _ HFi.out).mono fun _ _ h => ⟨h.1, h.2.symm⟩)) | (go_at_call 16; exact Calls.quiet_of_same ((revery_no c y z _ HFi.out).mono fun _ _ h => ⟨h.1, h.2.symm⟩))))
            have hP : PlayI w c b ((wr.alloc (.cells #[.int .i64 1, .int .i64 y, .int .i64 z] 28)).drewN nq) := ⟨L, A, A', (HCA.out _).same rfl, (HRA.out _).same rfl, HG.out, hbw, hcw, hbc, below_dn (HBA.out _) _⟩
            obtain ⟨L2, A2, A2', hC2, hR2, hG2, hbw2, hcw2, hbc2, hB2⟩ := hP
            have HC2 := Lib.hid hC2
            have HR2 := Lib.hid hR2
            have HG2 := Lib.hid hG2
            have HB2 := Lib.hid hB2
            clear hC2 hR2 hG2 hB2
            go_wp2_with fail
            refine (next_any b L2 A2 _ HC2.out).mono ?_
            rintro e w8 ⟨rfl, hb8⟩
            have HC8 := Lib.hid (HC2.out.upd (Upd.ofBelow' (S := fun _ => False) hb8) (fun h => h))
            have HR8 := Lib.hid (HR2.out.upd (Upd.ofBelow' (S := fun _ => False) hb8) (fun h => h))
            have HB8 := Lib.hid (HB2.out.trans (hb8.mono HB2.out.size))
            clear hb8
            go_wp2_with fail
            refine (rnext_any c L2 A2' _ HR8.out).mono ?_
            rintro e w9 ⟨rfl, rfl⟩
            generalize nextN L2 = nn at *
            generalize nextB L2 = nb at *
            go_wp2_with fail
            go_roundw
            case rel => exact ⟨k + 1, by omega, by go_num, b, rfl, L2, A2, A2', HC8.out, HR8.out, HG2.out, hbw2, hcw2, hbc2, HB8.out⟩
            case measure => simp [intOf]; omega
        · by_cases x2 : x = 2
          · subst x2
            have o1 : (wr.alloc (.cells #[.int .i64 2, .int .i64 y, .int .i64 z] 28)).cell? ⟨wr.heap.size, 1, none⟩ = some (.int .i64 y) := (cells3' (heap_alloc_new wr _)).2.1
            have HOB := Lib.hid (heap_alloc_new wr (.cells #[.int .i64 2, .int .i64 y, .int .i64 z] 28))
            by_cases hf : 0 ≤ y ∧ y < 16
            · obtain ⟨hf0, hf1⟩ := hf
              go_wp2_with fail
              refine (stop_ok b y L A _ (HCA.out _) hf0 hf1).mono ?_
              rintro e w5 ⟨rfl, hC5, hu5⟩
              have HX := Lib.hid (hu5.block_some HOB.out (by show ¬ wr.heap.size = b; omega))
              have hR5 := (HRA.out _).upd hu5 (by show ¬ c = b; omega)
              have HB5 := Lib.hid (below2 (HBA.out _) hu5 hbw (Nat.le_refl _))
              have HC5 := Lib.hid hC5
              have HR5 := Lib.hid hR5
              clear hC5 hR5 hu5
              obtain ⟨p0, p1, p2⟩ := cells3' HX.out
              have hx5 := lt_of_block HX.out
              go_wp2_with fail
              refine (rstop_ok c y L A' _ HR5.out hf0 hf1).mono ?_
              rintro e w6 ⟨rfl, hR6, hu6⟩
              have hP : PlayI w c b w6 := ⟨_, _, _, HC5.out.upd hu6 (by show ¬ b = c; omega), hR6, HG.out.stop y, hbw, hcw, hbc, below2 HB5.out hu6 hcw (Nat.le_refl _)⟩
              clear hR6 hu6
              obtain ⟨L2, A2, A2', hC2, hR2, hG2, hbw2, hcw2, hbc2, hB2⟩ := hP
              have HC2 := Lib.hid hC2
              have HR2 := Lib.hid hR2
              have HG2 := Lib.hid hG2
              have HB2 := Lib.hid hB2
              clear hC2 hR2 hG2 hB2
              go_wp2_with fail
              refine (next_any b L2 A2 _ HC2.out).mono ?_
              rintro e w8 ⟨rfl, hb8⟩
              have HC8 := Lib.hid (HC2.out.upd (Upd.ofBelow' (S := fun _ => False) hb8) (fun h => h))
              have HR8 := Lib.hid (HR2.out.upd (Upd.ofBelow' (S := fun _ => False) hb8) (fun h => h))
              have HB8 := Lib.hid (HB2.out.trans (hb8.mono HB2.out.size))
              clear hb8
              go_wp2_with fail
              refine (rnext_any c L2 A2' _ HR8.out).mono ?_
              rintro e w9 ⟨rfl, rfl⟩
              generalize nextN L2 = nn at *
              generalize nextB L2 = nb at *
              go_wp2_with fail
              go_roundw
              case rel => exact ⟨k + 1, by omega, by go_num, b, rfl, L2, A2, A2', HC8.out, HR8.out, HG2.out, hbw2, hcw2, hbc2, HB8.out⟩
              case measure => simp [intOf]; omega

            · go_wp2_with fail
              refine (stop_no b y _ hf).mono ?_
              rintro e w5 ⟨rfl, rfl⟩
              go_wp2_with fail
              refine (rstop_no c y _ hf).mono ?_
              rintro e w5 ⟨rfl, rfl⟩
              have hP : PlayI w c b (wr.alloc (.cells #[.int .i64 2, .int .i64 y, .int .i64 z] 28)) := ⟨L, A, A', HCA.out _, HRA.out _, HG.out, hbw, hcw, hbc, HBA.out _⟩
              obtain ⟨L2, A2, A2', hC2, hR2, hG2, hbw2, hcw2, hbc2, hB2⟩ := hP
              have HC2 := Lib.hid hC2
              have HR2 := Lib.hid hR2
              have HG2 := Lib.hid hG2
              have HB2 := Lib.hid hB2
              clear hC2 hR2 hG2 hB2
              go_wp2_with fail
              refine (next_any b L2 A2 _ HC2.out).mono ?_
              rintro e w8 ⟨rfl, hb8⟩
              have HC8 := Lib.hid (HC2.out.upd (Upd.ofBelow' (S := fun _ => False) hb8) (fun h => h))
              have HR8 := Lib.hid (HR2.out.upd (Upd.ofBelow' (S := fun _ => False) hb8) (fun h => h))
              have HB8 := Lib.hid (HB2.out.trans (hb8.mono HB2.out.size))
              clear hb8
              go_wp2_with fail
              refine (rnext_any c L2 A2' _ HR8.out).mono ?_
              rintro e w9 ⟨rfl, rfl⟩
              generalize nextN L2 = nn at *
              generalize nextB L2 = nb at *
              go_wp2_with fail
              go_roundw
              case rel => exact ⟨k + 1, by omega, by go_num, b, rfl, L2, A2, A2', HC8.out, HR8.out, HG2.out, hbw2, hcw2, hbc2, HB8.out⟩
              case measure => simp [intOf]; omega
          · by_cases x3 : x = 3
            · subst x3
              have o1 : (wr.alloc (.cells #[.int .i64 3, .int .i64 y, .int .i64 z] 28)).cell? ⟨wr.heap.size, 1, none⟩ = some (.int .i64 y) := (cells3' (heap_alloc_new wr _)).2.1
              have HOB := Lib.hid (heap_alloc_new wr (.cells #[.int .i64 3, .int .i64 y, .int .i64 z] 28))
              go_wp2_with fail
              refine (left_any b L A y _ (HCA.out _)).mono ?_
              rintro e w5 ⟨rfl, hb5⟩
              have HX := Lib.hid (bkeep' hb5 HOB.out)
              have HB5 := Lib.hid (bstep (B := w.heap.size) (w := w) hb5 (HBA.out _) (Nat.le_refl _))
              have HC5 := Lib.hid ((HCA.out _).upd (Upd.ofBelow' (S := fun _ => False) hb5) (fun h => h))
              have HR5 := Lib.hid ((HRA.out _).upd (Upd.ofBelow' (S := fun _ => False) hb5) (fun h => h))
              clear hb5
              obtain ⟨p0, p1, p2⟩ := cells3' HX.out
              have hx5 := lt_of_block HX.out
              go_wp2_with fail
              refine (rhas_any c L A' y _ HR5.out (fun i hi => (HG.out i hi).1.1)).mono ?_
              rintro e w6 ⟨rfl, rfl⟩
              generalize leftN L y = ln at *
              generalize leftB L y = lb2 at *
              have hP : PlayI w c b w5 := ⟨L, A, A', HC5.out, HR5.out, HG.out, hbw, hcw, hbc, HB5.out⟩
              obtain ⟨L2, A2, A2', hC2, hR2, hG2, hbw2, hcw2, hbc2, hB2⟩ := hP
              have HC2 := Lib.hid hC2
              have HR2 := Lib.hid hR2
              have HG2 := Lib.hid hG2
              have HB2 := Lib.hid hB2
              clear hC2 hR2 hG2 hB2
              go_wp2_with fail
              refine (next_any b L2 A2 _ HC2.out).mono ?_
              rintro e w8 ⟨rfl, hb8⟩
              have HC8 := Lib.hid (HC2.out.upd (Upd.ofBelow' (S := fun _ => False) hb8) (fun h => h))
              have HR8 := Lib.hid (HR2.out.upd (Upd.ofBelow' (S := fun _ => False) hb8) (fun h => h))
              have HB8 := Lib.hid (HB2.out.trans (hb8.mono HB2.out.size))
              clear hb8
              go_wp2_with fail
              refine (rnext_any c L2 A2' _ HR8.out).mono ?_
              rintro e w9 ⟨rfl, rfl⟩
              generalize nextN L2 = nn at *
              generalize nextB L2 = nb at *
              go_wp2_with fail
              go_roundw
              case rel => exact ⟨k + 1, by omega, by go_num, b, rfl, L2, A2, A2', HC8.out, HR8.out, HG2.out, hbw2, hcw2, hbc2, HB8.out⟩
              case measure => simp [intOf]; omega
            · by_cases x4 : x = 4
              · subst x4
                have o1 : (wr.alloc (.cells #[.int .i64 4, .int .i64 y, .int .i64 z] 28)).cell? ⟨wr.heap.size, 1, none⟩ = some (.int .i64 y) := (cells3' (heap_alloc_new wr _)).2.1
                have HOB := Lib.hid (heap_alloc_new wr (.cells #[.int .i64 4, .int .i64 y, .int .i64 z] 28))
                go_wp2_with fail
                refine (copy_ok b L A _ (HCA.out _)).mono ?_
                rintro e w5 ⟨rfl, hD5, hb5, hd5⟩
                have s5 := hb5.size
                simp only [World.size_alloc] at hD5 hd5 s5
                have HD5 := Lib.hid hD5
                have HB5 := Lib.hid (bstep (B := w.heap.size) (w := w) hb5 (HBA.out _) (Nat.le_refl _))
                have HC5 := Lib.hid ((HCA.out _).upd (Upd.ofBelow' (S := fun _ => False) hb5) (fun h => h))
                have HR5 := Lib.hid ((HRA.out _).upd (Upd.ofBelow' (S := fun _ => False) hb5) (fun h => h))
                clear hD5 hb5
                go_wp2_with fail
                refine (set_ok b 0 1 L A _ HC5.out (by unfold fits; omega)).mono ?_
                rintro e w6 ⟨rfl, hC6, hu6⟩
                have HB6 := Lib.hid (below2 HB5.out hu6 hbw (Nat.le_refl _))
                have HC6 := Lib.hid hC6
                have HD6 := Lib.hid (HD5.out.upd hu6 (by show ¬ wr.heap.size + 1 = b; omega))
                have HR6 := Lib.hid (HR5.out.upd hu6 (by show ¬ c = b; omega))
                clear hC6 hu6
                go_wp2_with fail
                refine (tick_ints b _ _ _ HC6.out (fun i hi => by have := (HG.out i hi).1.2; unfold setF; split <;> omega)).mono ?_
                rintro e w7 ⟨al, cl, rfl, hl, hlb, hC7, hu7⟩
                have hP : PlayI w c (wr.heap.size + 1) w7 := ⟨L, A, A', HD6.out.upd hu7 (by show ¬ wr.heap.size + 1 = b; omega), HR6.out.upd hu7 (by show ¬ c = b; omega), HG.out, by omega, hcw, by omega, below2 HB6.out hu7 hbw (Nat.le_refl _)⟩
                clear hl hlb hC7 hu7
                obtain ⟨L2, A2, A2', hC2, hR2, hG2, hbw2, hcw2, hbc2, hB2⟩ := hP
                have HC2 := Lib.hid hC2
                have HR2 := Lib.hid hR2
                have HG2 := Lib.hid hG2
                have HB2 := Lib.hid hB2
                clear hC2 hR2 hG2 hB2
                go_wp2_with fail
                refine (next_any (wr.heap.size + 1) L2 A2 _ HC2.out).mono ?_
                rintro e w8 ⟨rfl, hb8⟩
                have HC8 := Lib.hid (HC2.out.upd (Upd.ofBelow' (S := fun _ => False) hb8) (fun h => h))
                have HR8 := Lib.hid (HR2.out.upd (Upd.ofBelow' (S := fun _ => False) hb8) (fun h => h))
                have HB8 := Lib.hid (HB2.out.trans (hb8.mono HB2.out.size))
                clear hb8
                go_wp2_with fail
                refine (rnext_any c L2 A2' _ HR8.out).mono ?_
                rintro e w9 ⟨rfl, rfl⟩
                generalize nextN L2 = nn at *
                generalize nextB L2 = nb at *
                go_wp2_with fail
                go_roundw
                case rel => exact ⟨k + 1, by omega, by go_num, (wr.heap.size + 1), rfl, L2, A2, A2', HC8.out, HR8.out, HG2.out, hbw2, hcw2, hbc2, HB8.out⟩
                case measure => simp [intOf]; omega
              · have q0 : (x == 0) = false := by simpa using x0
                have q1 : (x == 1) = false := by simpa using x1
                have q2 : (x == 2) = false := by simpa using x2
                have q3 : (x == 3) = false := by simpa using x3
                have q4 : (x == 4) = false := by simpa using x4
                clear x0 x1 x2 x3 x4
                go_wp2_with fail
                refine (tick_ints b L A _ (HCA.out _) (fun i hi => (HG.out i hi).1.2)).mono ?_
                rintro e w5 ⟨al, cl, rfl, hl5, hlb5, hC5, hu5⟩
                have s5 := hu5.size
                simp only [World.size_alloc] at s5 hlb5
                have HB5 := Lib.hid (below2 (HBA.out _) hu5 hbw (Nat.le_refl _))
                have HC5 := Lib.hid hC5
                have HR5 := Lib.hid ((HRA.out _).upd hu5 (by show ¬ c = b; omega))
                have HL5 := Lib.hid hl5
                have HLB5 := Lib.hid hlb5
                clear hl5 hlb5 hC5 hu5
                go_wp2_with fail
                refine (rtick_ints c L A' _ HR5.out (fun i hi => (HG.out i hi).1)).mono ?_
                rintro e w6 ⟨am, cm, rfl, hm6, hmb6, hR6, hu6⟩
                have HB6 := Lib.hid (below2 HB5.out hu6 hcw (Nat.le_refl _))
                have HC6 := Lib.hid (HC5.out.upd hu6 (by show ¬ b = c; omega))
                have HR6 := Lib.hid (RClk.ext hR6 (fun i hi => (HG.out.same i hi).symm) (fun _ _ => rfl))
                have HL6 := Lib.hid (HL5.out.upd hu6 (fun k' hk' (e : k' = c) => by have := HLB5.out k' hk'; omega))
                have HM6 := Lib.hid hm6
                have htz := tickZ_len L
                have HGT := Lib.hid HG.out.tick
                clear hm6 hmb6 hR6 hu6
                go_wp2_with fail
                refine (ints_any (tickZ L) (tickZ L) al am cl cm _ (by unfold maxLen; omega) (by unfold maxLen; omega) HL6.out HM6.out).mono ?_
                rintro e w7 ⟨rfl, hb7⟩
                rw [decide_eq_true rfl]
                have hP : PlayI w c b w7 := ⟨_, _, _, HC6.out.upd (Upd.ofBelow' (S := fun _ => False) hb7) (fun h => h), HR6.out.upd (Upd.ofBelow' (S := fun _ => False) hb7) (fun h => h), HGT.out, hbw, hcw, hbc, bstep (B := w.heap.size) (w := w) hb7 HB6.out (Nat.le_refl _)⟩
                clear hb7
                generalize tickZ L = tl at *
                obtain ⟨L2, A2, A2', hC2, hR2, hG2, hbw2, hcw2, hbc2, hB2⟩ := hP
                have HC2 := Lib.hid hC2
                have HR2 := Lib.hid hR2
                have HG2 := Lib.hid hG2
                have HB2 := Lib.hid hB2
                clear hC2 hR2 hG2 hB2
                go_wp2_with fail
                refine (next_any b L2 A2 _ HC2.out).mono ?_
                rintro e w8 ⟨rfl, hb8⟩
                have HC8 := Lib.hid (HC2.out.upd (Upd.ofBelow' (S := fun _ => False) hb8) (fun h => h))
                have HR8 := Lib.hid (HR2.out.upd (Upd.ofBelow' (S := fun _ => False) hb8) (fun h => h))
                have HB8 := Lib.hid (HB2.out.trans (hb8.mono HB2.out.size))
                clear hb8
                go_wp2_with fail
                refine (rnext_any c L2 A2' _ HR8.out).mono ?_
                rintro e w9 ⟨rfl, rfl⟩
                generalize nextN L2 = nn at *
                generalize nextB L2 = nb at *
                go_wp2_with fail
                go_roundw
                case rel => exact ⟨k + 1, by omega, by go_num, b, rfl, L2, A2, A2', HC8.out, HR8.out, HG2.out, hbw2, hcw2, hbc2, HB8.out⟩
                case measure => simp [intOf]; omega
    · have key : ¬ ((k : Int) < (len : Int)) ∨ ¬ ((k : Int) < 100) := by omega
      clear hk1
      rcases key with d1 | d1
      · have d2 : (len : Int) ≤ (k : Int) := by omega
        clear d1
        go_wp2_with fail
        refine (known_any _).mono ?_
        rintro e w5 ⟨rfl, hb5⟩
        go_wp2_with fail
        go_ret
        exact ⟨rfl, HB.out.trans (hb5.mono hwl)⟩
      · obtain rfl : k = 100 := by omega
        clear d1
        by_cases d2 : (100 : Int) < (len : Int)
        · go_wp2_with fail
          refine (known_any _).mono ?_
          rintro e w5 ⟨rfl, hb5⟩
          go_wp2_with fail
          go_ret
          exact ⟨rfl, HB.out.trans (hb5.mono hwl)⟩
        · have d3 : (len : Int) ≤ 100 := by omega
          clear d2
          go_wp2_with fail
          refine (known_any _).mono ?_
          rintro e w5 ⟨rfl, hb5⟩
          go_wp2_with fail
          go_ret
          exact ⟨rfl, HB.out.trans (hb5.mono hwl)⟩

section
open Go.ChangeShapes Go.WideShapes Go.ChangeAt
variable {H : Type} {enc : TypeId × Value → H} {w : World} {base : Nat}
theorem cplays_frame (v0 : Value) (w : World) {d0 : DataW H} {p0 : List MemPlace} (ok0 : Value.okWide Try.prog w .any base 22 v0) (k0 : DataW.Trod enc Try.prog w 0 (fun _ => true) true 22 v0 d0 p0) :
    Calls Try.prog 5 #[v0] w fun e w' => e = .returned (.bool true) ∧ Below w.heap.size w w' := by
  obtain ⟨a, n, cap, rfl, hn, hF⟩ := open_ops ok0 k0
  exact cplays_walk a n cap w hn hF
end
end Go.Proofs.Ytcicmpegajahkaa
