/-
  LAW ClockOnce: the walk.
-/
import Derived.Test.YtcicmpegajahkaaWrap
import Derived.Test.YtcicmpegajahkaaAid
import Derived.Test.YtcicmpegajahkaaOpen
import Derived.Handy
import Derived.Deep.Light
import Derived.BigQuiet
import Derived.Deep.QuietTactic
import Derived.Deep.LoopGhost
import Derived.Deep.CutRange
set_option linter.unusedSimpArgs false
set_option linter.unusedVariables false
namespace Go.Proofs.Ytcicmpegajahkaa
open Go.RowKit
attribute [local go_sem] Oper.semAt_some

theorem below_dn {B : Nat} {a w : World} (h : Below B a w) (n : Nat) : Below B a (w.drewN n) := ⟨h.os, h.tape, h.output, h.size, h.block⟩

/-- A script, as it lies in memory. -/
def Ops (w : World) (a : Option Addr) (n : Nat) : Prop := n = 0 ∨ ∃ b off, a = some ⟨b, off, none⟩ ∧ b < w.heap.size ∧ ∀ i, i < n → ∃ x y z : Int, ElemAt w b off 3 i [.int .i64 x, .int .i64 y, .int .i64 z]
theorem elem3 {w : World} {b off i : Nat} {x y z : Value} (h : ElemAt w b off 3 i [x, y, z]) :
    w.cell? ⟨b, off + i * 3, none⟩ = some x ∧ w.cell? ⟨b, off + i * 3 + 1, none⟩ = some y ∧ w.cell? ⟨b, off + i * 3 + 2, none⟩ = some z := ⟨h.2 0 _ rfl, h.2 1 _ rfl, h.2 2 _ rfl⟩

/-- Behind t ticks of a timer k that was set to n. -/
def OnceS (k n t : Nat) (L A : Nat → Int) : Prop := L k = (if t < n then ((n - t : Nat) : Int) else 0) ∧ A k = 0 ∧ ∀ i, i < 16 → L i ≤ 1048576 ∧ A i ≤ 1048576

theorem OnceS.tick {k n t : Nat} {L A : Nat → Int} (h : OnceS k n t L A) : OnceS k n (t + 1) (tickL L A) A := by
  obtain ⟨h1, h2, h3⟩ := h
  refine ⟨?_, h2, fun i hi => ⟨?_, (h3 i hi).2⟩⟩
  · unfold tickL
    rw [h1, h2]
    by_cases c : t < n
    · rw [if_pos c, if_pos (by omega)]
      by_cases d : t + 1 < n
      · rw [if_neg (by omega), if_pos d]; omega
      · rw [if_pos (by omega), if_neg d]
    · rw [if_neg c, if_neg (by omega), if_neg (by omega)]
  · have := h3 i hi
    unfold tickL
    (repeat' split) <;> omega
theorem OnceS.set {k n t : Nat} {L A : Nat → Int} (h : OnceS k n t L A) (name x y : Int) (hx : x ≤ 1048576) (hy : y ≤ 1048576) (hne : name ≠ (k : Int)) : OnceS k n t (setF L name x) (setF A name y) := by
  obtain ⟨h1, h2, h3⟩ := h
  refine ⟨?_, ?_, fun i hi => ?_⟩
  · unfold setF; rw [if_neg (fun e => hne e.symm)]; exact h1
  · unfold setF; rw [if_neg (fun e => hne e.symm)]; exact h2
  · have := h3 i hi
    unfold setF
    constructor <;> split <;> omega

/-- What every act leaves. -/
def Left1 (b k n t : Nat) (w w' : World) : Prop := ∃ L A, Clk w' b L A ∧ OnceS k n t L A ∧ Upd (· = b) w w'
def RetInt (e : Ending) : Prop := ∃ r : Int, e = .returned (.int .i64 r)

theorem set_inv {b k n t : Nat} {L A : Nat → Int} {w : World} (h : Clk w b L A) (hS : OnceS k n t L A) (name ticks : Int) (hne : name ≠ (k : Int)) :
    Calls Try.prog 8 #[.pointer (some ⟨b, 0, none⟩), .int .i64 name, .int .i64 ticks] w fun e w' => RetInt e ∧ Left1 b k n t w w' := by
  by_cases hf : fits name ticks
  · exact (set_ok b name ticks L A w h hf).mono fun e w' ⟨he, hC, hu⟩ => ⟨⟨_, he⟩, _, _, hC, hS.set name _ _ hf.2.2.2 (by omega) hne, hu⟩
  · exact (set_no b name ticks w hf).mono fun e w' ⟨he, hw⟩ => ⟨⟨_, he⟩, L, A, hw ▸ h, hS, hw ▸ Upd.refl _ _⟩
theorem every_inv {b k n t : Nat} {L A : Nat → Int} {w : World} (h : Clk w b L A) (hS : OnceS k n t L A) (name ticks : Int) (hne : name ≠ (k : Int)) :
    Calls Try.prog 9 #[.pointer (some ⟨b, 0, none⟩), .int .i64 name, .int .i64 ticks] w fun e w' => RetInt e ∧ Left1 b k n t w w' := by
  by_cases hf : fits name ticks
  · exact (every_ok b name ticks L A w h hf).mono fun e w' ⟨he, hC, hu⟩ => ⟨⟨_, he⟩, _, _, hC, hS.set name _ _ hf.2.2.2 hf.2.2.2 hne, hu⟩
  · exact (every_no b name ticks w hf).mono fun e w' ⟨he, hw⟩ => ⟨⟨_, he⟩, L, A, hw ▸ h, hS, hw ▸ Upd.refl _ _⟩
theorem stop_inv {b k n t : Nat} {L A : Nat → Int} {w : World} (h : Clk w b L A) (hS : OnceS k n t L A) (name : Int) (hne : name ≠ (k : Int)) :
    Calls Try.prog 10 #[.pointer (some ⟨b, 0, none⟩), .int .i64 name] w fun e w' => e = .returned (.tuple #[]) ∧ Left1 b k n t w w' := by
  by_cases hf : 0 ≤ name ∧ name < 16
  · exact (stop_ok b name L A w h hf.1 hf.2).mono fun e w' ⟨he, hC, hu⟩ => ⟨he, _, _, hC, hS.set name _ _ (by omega) (by omega) hne, hu⟩
  · exact (stop_no b name w hf).mono fun e w' ⟨he, hw⟩ => ⟨he, L, A, hw ▸ h, hS, hw ▸ Upd.refl _ _⟩

/-- What runs out: rising, names of timers, k among them just if it has one tick left. -/
theorem tickZ_mem (L : Nat → Int) (x : Int) : x ∈ tickZ L ↔ ∃ i : Nat, i < 16 ∧ L i = 1 ∧ x = (i : Int) := by
  unfold tickZ tickOut
  simp only [List.mem_map, List.mem_filter, List.mem_range, decide_eq_true_eq]
  constructor
  · rintro ⟨i, ⟨h1, h2⟩, h3⟩; exact ⟨i, h1, h2, h3.symm⟩
  · rintro ⟨i, h1, h2, h3⟩; exact ⟨i, ⟨h1, h2⟩, h3.symm⟩
theorem tickZ_rising (L : Nat → Int) (i j : Nat) (hij : i < j) (hj : j < (tickZ L).length) : (tickZ L)[i] < (tickZ L)[j] := by
  have h : (tickZ L).Pairwise (· < ·) := by
    unfold tickZ tickOut
    rw [List.pairwise_map]
    exact (List.Pairwise.filter _ List.pairwise_lt_range).imp (fun h => by omega)
  exact List.pairwise_iff_getElem.1 h i j (by omega) hj hij

/-- The count, behind i of what ran out. -/
def Met (tl : List Int) (k : Int) (i : Nat) (m : Int) : Prop := (m = 1 ∧ ∃ j, ∃ h : j < tl.length, j < i ∧ tl[j] = k) ∨ (m = 0 ∧ ∀ j (h : j < tl.length), j < i → tl[j] ≠ k)
theorem Met.zero (tl : List Int) (k : Int) : Met tl k 0 0 := .inr ⟨rfl, fun j _ h => absurd h (Nat.not_lt_zero _)⟩
theorem Met.hit {L : Nat → Int} {k : Int} {i : Nat} {m : Int} (h : Met (tickZ L) k i m) (hi : i < (tickZ L).length) (he : (tickZ L)[i] = k) : m = 0 ∧ Met (tickZ L) k (i + 1) 1 := by
  refine ⟨?_, .inl ⟨rfl, i, hi, by omega, he⟩⟩
  rcases h with ⟨rfl, j, hj, hji, hje⟩ | ⟨rfl, _⟩
  · have := tickZ_rising L j i hji hi; omega
  · rfl
theorem Met.miss {tl : List Int} {k : Int} {i : Nat} {m : Int} (h : Met tl k i m) (hi : i < tl.length) (he : tl[i] ≠ k) : Met tl k (i + 1) m := by
  rcases h with ⟨rfl, j, hj, hji, hje⟩ | ⟨rfl, h⟩
  · exact .inl ⟨rfl, j, hj, by omega, hje⟩
  · refine .inr ⟨rfl, fun j hj hji => ?_⟩
    by_cases e : j = i
    · subst e; exact he
    · exact h j hj (by omega)
theorem Met.all {L : Nat → Int} {k : Nat} (hk : k < 16) {m : Int} (h : Met (tickZ L) (k : Int) (tickZ L).length m) : m = if L k = 1 then 1 else 0 := by
  rcases h with ⟨rfl, j, hj, _, hje⟩ | ⟨rfl, h⟩
  · obtain ⟨i, h1, h2, h3⟩ := (tickZ_mem L _).1 (List.getElem_mem hj)
    have : i = k := by omega
    subst this
    rw [if_pos h2]
  · by_cases c : L k = 1
    · obtain ⟨j, hj, he⟩ := List.getElem_of_mem ((tickZ_mem L (k : Int)).2 ⟨k, hk, c, rfl⟩)
      exact absurd he (h j hj hj)
    · rw [if_neg c]

structure OutS (k : Nat) (L : Nat → Int) (tl : List Int) : Prop where
  len : tl.length ≤ 16
  mem : ∀ q (h : q < tl.length), ∃ i : Nat, i < 16 ∧ L i = 1 ∧ tl[q] = (i : Int)
  rise : ∀ i j (hij : i < j) (hj : j < tl.length), tl[i] < tl[j]
  hit : ∀ q m, Met tl (k : Int) q m → ∀ h : q < tl.length, tl[q] = (k : Int) → m = 0 ∧ Met tl (k : Int) (q + 1) 1
  all : ∀ m, Met tl (k : Int) tl.length m → m = if L k = 1 then 1 else 0
theorem outS (k : Nat) (hk : k < 16) (L : Nat → Int) : OutS k L (tickZ L) :=
  ⟨tickZ_len L, fun q h => (tickZ_mem L _).1 (List.getElem_mem h), tickZ_rising L, fun q m h hq he => h.hit hq he, fun m h => h.all hk⟩
theorem tick_list (k : Nat) (hk : k < 16) (b : Nat) (L A : Nat → Int) (w : World) (h : Clk w b L A) (hL : ∀ i, i < 16 → L i ≤ 1048576) :
    Calls Try.prog 11 #[.pointer (some ⟨b, 0, none⟩)] w fun e w' =>
      ∃ tl a cap, e = .returned (.slice a tl.length cap) ∧ Ints w' a tl ∧ OutS k L tl ∧ Clk w' b (tickL L A) A ∧ Upd (· = b) w w' :=
  (tick_ints b L A w h hL).mono fun e w' ⟨a, cap, h1, h2, h3, h4, h5⟩ => ⟨tickZ L, a, cap, h1, h2, outS k hk L, h4, h5⟩

set_option maxRecDepth 100000 in
set_option maxHeartbeats 8000000 in
theorem once_walk (nm tk : Nat) (hn1 : nm < 256) (ht1 : tk < 256) (a : Option Addr) (len cap : Nat) (w : World) (hlen : (len : Int) ≤ 9223372036854775807) (hO : Ops w a len) :
    Calls Try.prog 3 #[.int .u8 (nm : Int), .int .u8 (tk : Int), .slice a len cap] w fun e w' => e = .returned (.bool true) ∧ Below w.heap.size w w' := by
  have HO := Lib.hid hO
  clear hO
  have hnm0 : (0 : Int) ≤ (nm : Int) := by omega
  have hnm1 : (nm : Int) < 256 := by omega
  have htk0 : (0 : Int) ≤ (tk : Int) := by omega
  have htk1 : (tk : Int) < 256 := by omega
  go_enter Try.func3, Try.ntmps3
  go_wp2_with fail
  refine (new_any _).mono ?_
  rintro e w1 ⟨rfl, hC, hB, hlt⟩
  have HC := Lib.hid hC
  clear hC
  generalize hb0 : w.heap.size = b at hB hlt HC ⊢
  have HB := Lib.hid hB
  clear hB
  go_wp2_with fail
  obtain ⟨k, hk, hk16⟩ : ∃ k : Nat, (nm : Int) % 16 = (k : Int) ∧ k < 16 := ⟨nm % 16, by omega, by omega⟩
  obtain ⟨n, hn, hn1', hn60⟩ : ∃ n : Nat, 1 + (tk : Int) % 60 = (n : Int) ∧ 1 ≤ n ∧ n ≤ 60 := ⟨1 + tk % 60, by omega, by omega, by omega⟩
  rw [hk, hn]
  clear hk hn
  refine (set_ok b k n _ _ _ HC.out (by unfold fits; omega)).mono ?_
  rintro e w2 ⟨rfl, hC, hu1⟩
  have HS2 : Hid (OnceS k n 0 (setF zeroF k n) (setF zeroF k 0)) := by
    refine ⟨?_, ?_, fun i hi => ?_⟩
    · unfold setF; rw [if_pos rfl, if_pos (by omega)]; omega
    · unfold setF; rw [if_pos rfl]
    · unfold setF zeroF; constructor <;> split <;> omega
  clear HC
  have HC := Lib.hid hC
  have HB2 := Lib.hid (HB.out.updTo hu1 (Nat.le_refl _) (by omega))
  clear hC HB hu1
  generalize setF zeroF k n = L0 at *
  generalize setF zeroF k 0 = A0 at *
  go_wp2_with fail
  go_loopg [10, 11] (n + 10) (fun g m t wr => ∃ j : Nat, j ≤ n + 10 ∧ g = n + 10 - j ∧ t = .int .i64 (j + 1 : Nat) ∧ m = .int .i64 (if n ≤ j then 1 else 0) ∧ Below b w wr ∧ ∃ L A, Clk wr b L A ∧ OnceS k n j L A)
  case atStart => exact ⟨0, by omega, by omega, rfl, by rw [if_neg (by omega)], HB2.out, L0, A0, HC.out, HS2.out⟩
  case round =>
    obtain ⟨j, hj, hg, rfl, rfl, hBr, L, A, hCr, hSr⟩ := hrel
    clear HC HB2 HS2 hlt
    have HC := Lib.hid hCr
    have HS := Lib.hid hSr
    have HB := Lib.hid hBr
    have HG := Lib.hid hg
    clear hCr hSr hBr hg
    obtain ⟨m0, hm0⟩ : ∃ m0 : Int, (if n ≤ j then (1 : Int) else 0) = m0 := ⟨_, rfl⟩
    rw [hm0]
    have HM := Lib.hid hm0
    have hm1 : 0 ≤ m0 := by rw [← hm0]; split <;> omega
    have hm2 : m0 ≤ 1 := by rw [← hm0]; split <;> omega
    clear hm0
    by_cases hlast : j < n + 10
    · have d1 : ((j + 1 : Nat) : Int) ≤ (n : Int) + 10 := by omega
      have hbw : b < wr.heap.size := HC.out.lt
      have c1 : (n : Int) ≤ 60 := by omega
      have c2 : (j : Int) ≤ 70 := by omega
      have HL : Hid (Left1 b k n j wr wr) := ⟨L, A, HC.out, HS.out, Upd.refl _ _⟩
      go_upto_if 42 with fail
      go_cut [12] from 32 to 137 (fun o wx => Below b w wx ∧ Left1 b k n j wr wx)
      case first =>
        by_cases hjl : j < len
        · have d2 : (j : Int) < (len : Int) := by omega
          obtain ⟨lb, off, rfl, hlb, hops⟩ : ∃ lb off, a = some ⟨lb, off, none⟩ ∧ lb < w.heap.size ∧ ∀ i, i < len → ∃ x y z : Int, ElemAt w lb off 3 i [.int .i64 x, .int .i64 y, .int .i64 z] := by
            rcases HO.out with h0 | h0
            · omega
            · exact h0
          obtain ⟨x, y, z, he⟩ := hops j hjl
          obtain ⟨e0, e1, e2⟩ := elem3 (he.below (hb0.symm ▸ HB.out))
          have hlw : lb < wr.heap.size := by have := HB.out.size; omega
          clear hops he
          have hoa : ∀ X : Obj, Clk (wr.alloc X) b L A := fun X => HC.out.upd ((Upd.refl (fun _ => False) wr).alloc X) (fun h => h)
          have HOA := Lib.hid hoa
          have hbo : ∀ X : Obj, Below b w (wr.alloc X) := fun X => HB.out.alloc (by omega) X
          have HBO := Lib.hid hbo
          clear hoa hbo
          by_cases hy : y = (k : Int)
          · have hyb : (y != (k : Int)) = false := by simp [hy]
            clear hy
            go_wp2_with fail
            go_meet
            exact ⟨HBO.out _, L, A, HOA.out _, HS.out, (Upd.refl _ _).alloc _⟩
          · have hyb : (y != (k : Int)) = true := by rw [bne_iff_ne]; exact hy
            have HY := Lib.hid hy
            clear hy
            by_cases hx0 : x = 0
            · subst hx0
              go_wp2_with fail
              refine (set_inv (HOA.out _) HS.out y z HY.out).mono ?_
              rintro e w5 ⟨⟨r, rfl⟩, L', A', hC', hS', hu'⟩
              have HX := Lib.hid (hu'.block_some (heap_alloc_new wr (.cells #[.int .i64 0, .int .i64 y, .int .i64 z] 28)) (by show ¬ wr.heap.size = b; omega))
              have HW := Lib.hid (And.intro (HBO.out (.cells #[.int .i64 0, .int .i64 y, .int .i64 z] 28)) (And.intro hC' (And.intro hS' hu')))
              obtain ⟨o0, o1, o2⟩ := cells3' HX.out
              have hlt5 := lt_of_block HX.out
              clear hC' hS' hu'
              go_wp2_with fail
              go_meet
              obtain ⟨h1, h2, h3, h4⟩ := HW.out
              exact ⟨h1.trans (h4.toBelow (B := b) (by simp; omega) (fun i hi (e : i = b) => by omega)), L', A', h2, h3, ((Upd.refl (· = b) wr).alloc _).trans h4 (fun _ _ h => h)⟩
            · by_cases hx1 : x = 1
              · subst hx1
                go_wp2_with fail
                refine (every_inv (HOA.out _) HS.out y z HY.out).mono ?_
                rintro e w5 ⟨⟨r, rfl⟩, L', A', hC', hS', hu'⟩
                have HX := Lib.hid (hu'.block_some (heap_alloc_new wr (.cells #[.int .i64 1, .int .i64 y, .int .i64 z] 28)) (by show ¬ wr.heap.size = b; omega))
                have HW := Lib.hid (And.intro (HBO.out (.cells #[.int .i64 1, .int .i64 y, .int .i64 z] 28)) (And.intro hC' (And.intro hS' hu')))
                obtain ⟨o0, o1, o2⟩ := cells3' HX.out
                have hlt5 := lt_of_block HX.out
                clear hC' hS' hu'
                go_wp2_with fail
                go_meet
                obtain ⟨h1, h2, h3, h4⟩ := HW.out
                exact ⟨h1.trans (h4.toBelow (B := b) (by simp; omega) (fun i hi (e : i = b) => by omega)), L', A', h2, h3, ((Upd.refl (· = b) wr).alloc _).trans h4 (fun _ _ h => h)⟩
              · by_cases hx2 : x = 2
                · subst hx2
                  go_wp2_with fail
                  refine (stop_inv (HOA.out _) HS.out y HY.out).mono ?_
                  rintro e w5 ⟨rfl, L', A', hC', hS', hu'⟩
                  have HX := Lib.hid (hu'.block_some (heap_alloc_new wr (.cells #[.int .i64 2, .int .i64 y, .int .i64 z] 28)) (by show ¬ wr.heap.size = b; omega))
                  have HW := Lib.hid (And.intro (HBO.out (.cells #[.int .i64 2, .int .i64 y, .int .i64 z] 28)) (And.intro hC' (And.intro hS' hu')))
                  obtain ⟨o0, o1, o2⟩ := cells3' HX.out
                  have hlt5 := lt_of_block HX.out
                  clear hC' hS' hu'
                  go_wp2_with fail
                  go_meet
                  obtain ⟨h1, h2, h3, h4⟩ := HW.out
                  exact ⟨h1.trans (h4.toBelow (B := b) (by simp; omega) (fun i hi (e : i = b) => by omega)), L', A', h2, h3, ((Upd.refl (· = b) wr).alloc _).trans h4 (fun _ _ h => h)⟩
                · have q0 : (x == 0) = false := by simpa using hx0
                  have q1 : (x == 1) = false := by simpa using hx1
                  have q2 : (x == 2) = false := by simpa using hx2
                  clear hx0 hx1 hx2
                  go_wp2_with fail
                  go_meet
                  exact ⟨HBO.out _, L, A, HOA.out _, HS.out, (Upd.refl _ _).alloc _⟩
        · have d2 : (len : Int) ≤ (j : Int) := by omega
          go_wp2_with fail
          go_meet
          exact ⟨HB.out, HL.out⟩
      case rest =>
        obtain ⟨hBc, L', A', hC', hS', hu'⟩ := hcut
        have HC' := Lib.hid hC'
        have HS' := Lib.hid hS'
        have HB' := Lib.hid hBc
        clear hBc hC' hS' hu' HC HS HB HL
        have hbc : b < wc.heap.size := HC'.out.lt
        go_wp2_with fail
        refine (tick_list k hk16 b _ _ _ HC'.out (fun i hi => (HS'.out.2.2 i hi).1)).mono ?_
        rintro e w6 ⟨tl, al, cl, rfl, hl, hout, hC, hu6⟩
        have HC6 := Lib.hid hC
        have HS6 := Lib.hid HS'.out.tick
        have HB6 := Lib.hid (HB'.out.updTo hu6 (Nat.le_refl _) (by omega))
        have HT := Lib.hid hout
        have HI := Lib.hid hl
        have hK : Hid (L' k = (if j < n then ((n - j : Nat) : Int) else 0)) := HS'.out.1
        have htl := hout.len
        have hb6 : b < w6.heap.size := HC6.out.lt
        clear hC hu6 hl hout HC' HS' HB'
        go_wp2_with fail
        go_loopg [10, 14] tl.length (fun g m i wr2 => ∃ q : Nat, q ≤ tl.length ∧ g = tl.length - q ∧ i = .int .i64 q ∧ ∃ mm : Int, m = .int .i64 (m0 + mm) ∧ Met tl k q mm ∧ ∃ nd, wr2 = w6.drewN nd)
        case atStart => exact ⟨0, by omega, by omega, rfl, 0, by rw [Int.add_zero], Met.zero _ _, 0, rfl⟩
        case round =>
          obtain ⟨q, hq, hgq, rfl, mm, rfl, hmet, nd, rfl⟩ := hrel
          have HGQ := Lib.hid hgq
          have HME := Lib.hid hmet
          have hmm : 0 ≤ mm ∧ mm ≤ 1 := by rcases hmet with ⟨rfl, _⟩ | ⟨rfl, _⟩ <;> omega
          obtain ⟨hmm0, hmm1⟩ := hmm
          clear hgq hmet
          by_cases hql : q < tl.length
          · have d2 : (q : Int) < (tl.length : Int) := by omega
            obtain ⟨ab, ao, rfl, hcell⟩ : ∃ ab ao, al = some ⟨ab, ao, none⟩ ∧ ∀ i (h : i < tl.length), w6.cell? ⟨ab, ao + i, none⟩ = some (.int .i64 tl[i]) := by
              rcases HI.out with h0 | h0
              · rw [h0] at hql; simp at hql
              · exact h0
            have cq := hcell q hql
            have hab := World.block_lt_of_cell? w6 _ cq
            obtain ⟨i0, hi0, hi1, hi2⟩ := HT.out.mem q hql
            obtain ⟨x, hx⟩ : ∃ x, tl[q] = x := ⟨_, rfl⟩
            have HXQ := Lib.hid hx
            rw [hx] at cq hi2
            have x0 : decide (x < 0) = false := by rw [decide_eq_false_iff_not]; omega
            have x1 : decide (16 ≤ x) = false := by rw [decide_eq_false_iff_not]; omega
            have hkx : x = (k : Int) → L' k = 1 := fun h => by
              have : i0 = k := by omega
              rw [← this]; exact hi1
            have HKX := Lib.hid hkx
            have HCE := Lib.hid hcell
            have hx0 : 0 ≤ x := by omega
            have hx16 : x < 16 := by omega
            clear hi1 hi2 hkx hcell hx hi0
            by_cases hq0 : q = 0
            · subst hq0
              have cq' : w6.cell? ⟨ab, ao, none⟩ = some (.int .i64 x) := by simpa using cq
              by_cases hxk : x = (k : Int)
              · skip
                have hL1 := HKX.out hxk
                have hKK := hK.out
                rw [hL1] at hKK
                have hnj : n = j + 1 := by
                  by_cases c : j < n
                  · rw [if_pos c] at hKK; omega
                  · rw [if_neg c] at hKK; omega
                have hnb : ((j : Int) + 1 != (n : Int)) = false := by rw [hnj]; simp
                have hnb2 : (((j + 1 : Nat) : Int) != (n : Int)) = false := by rw [hnj]; simp
                have hxb : (x == (k : Int)) = true := by rw [hxk]; simp
                have HM2 := Lib.hid (HT.out.hit _ mm HME.out hql (by rw [HXQ.out]; exact hxk))
                clear hxk hL1 hKK hnj
                go_wp2_with fail
                go_quiet (fail)
                go_wp2_with fail
                go_roundg (tl.length - (0 + 1))
                case measure => have := HGQ.out; omega
                case rel => exact ⟨0 + 1, by omega, rfl, by go_num, 1, congrArg (Value.int .i64) (by have := HM2.out.1; omega), HM2.out.2, _, rfl⟩
              · skip
                have hxk' : (x == (k : Int)) = false := by rw [beq_eq_false_iff_ne]; exact hxk
                have HM2 := Lib.hid (HME.out.miss hql (by rw [HXQ.out]; exact hxk))
                clear hxk
                go_wp2_with fail
                go_quiet (fail)
                go_wp2_with fail
                go_roundg (tl.length - (0 + 1))
                case measure => have := HGQ.out; omega
                case rel => exact ⟨0 + 1, by omega, rfl, by go_num, mm, rfl, HM2.out, _, rfl⟩
            · have hyy := HT.out.rise (q - 1) q (by omega) hql
              have cp := HCE.out (q - 1) (by omega)
              obtain ⟨y, hy⟩ : ∃ y, tl[q - 1]'(by omega) = y := ⟨_, rfl⟩
              rw [hy] at hyy cp
              rw [HXQ.out] at hyy
              have x2 : decide (x ≤ y) = false := by rw [decide_eq_false_iff_not]; omega
              obtain ⟨q1, rfl⟩ : ∃ q1, q = q1 + 1 := ⟨q - 1, by omega⟩
              simp only [Nat.add_sub_cancel] at cp
              have d3 : (0 : Int) < ((q1 + 1 : Nat) : Int) := by omega
              clear hy hyy
              by_cases hxk : x = (k : Int)
              · skip
                have hL1 := HKX.out hxk
                have hKK := hK.out
                rw [hL1] at hKK
                have hnj : n = j + 1 := by
                  by_cases c : j < n
                  · rw [if_pos c] at hKK; omega
                  · rw [if_neg c] at hKK; omega
                have hnb : ((j : Int) + 1 != (n : Int)) = false := by rw [hnj]; simp
                have hnb2 : (((j + 1 : Nat) : Int) != (n : Int)) = false := by rw [hnj]; simp
                have hxb : (x == (k : Int)) = true := by rw [hxk]; simp
                have HM2 := Lib.hid (HT.out.hit _ mm HME.out hql (by rw [HXQ.out]; exact hxk))
                clear hxk hL1 hKK hnj
                go_wp2_with fail
                go_quiet (fail)
                go_wp2_with fail
                go_roundg (tl.length - ((q1 + 1) + 1))
                case measure => have := HGQ.out; omega
                case rel => exact ⟨(q1 + 1) + 1, by omega, rfl, by go_num, 1, congrArg (Value.int .i64) (by have := HM2.out.1; omega), HM2.out.2, _, rfl⟩
              · skip
                have hxk' : (x == (k : Int)) = false := by rw [beq_eq_false_iff_ne]; exact hxk
                have HM2 := Lib.hid (HME.out.miss hql (by rw [HXQ.out]; exact hxk))
                clear hxk
                go_wp2_with fail
                go_quiet (fail)
                go_wp2_with fail
                go_roundg (tl.length - ((q1 + 1) + 1))
                case measure => have := HGQ.out; omega
                case rel => exact ⟨(q1 + 1) + 1, by omega, rfl, by go_num, mm, rfl, HM2.out, _, rfl⟩
          · obtain rfl : q = tl.length := by omega
            have hmz := HT.out.all mm HME.out
            have HMZ := Lib.hid hmz
            clear hmz
            go_wp2_with fail
            go_roundg (n + 10 - (j + 1))
            case measure => have := HG.out; omega
            case rel =>
              refine ⟨j + 1, by omega, rfl, by go_num, congrArg (Value.int .i64) ?_, below_dn HB6.out _, _, _, HC6.out.same rfl, HS6.out⟩
              have h1 := HMZ.out
              have h2 := HM.out
              have h3 := hK.out
              by_cases c : j < n
              · rw [if_pos c] at h3
                rw [if_neg (by omega)] at h2
                by_cases d : j + 1 = n
                · rw [if_pos (by omega)] at h1
                  rw [if_pos (by omega)]; omega
                · rw [if_neg (by omega)] at h1
                  rw [if_neg (by omega)]; omega
              · rw [if_neg c] at h3
                rw [if_pos (by omega)] at h2
                rw [if_neg (by omega)] at h1
                rw [if_pos (by omega)]; omega
    · obtain rfl : j = n + 10 := by omega
      have d1 : ¬ ((n + 10 + 1 : Nat) : Int) ≤ (n : Int) + 10 := by omega
      have hm1' : m0 = 1 := by have := HM.out; rw [if_pos (by omega)] at this; omega
      have hlb : leftB L (k : Int) = false := by
        unfold leftB
        rw [decide_eq_false_iff_not]
        rintro ⟨_, _, h⟩
        have := HS.out.1
        rw [if_neg (by omega)] at this
        simp at h
        omega
      have HLB := Lib.hid hlb
      subst hm1'
      clear hlb hm1 hm2
      go_wp2_with fail
      refine (left_any b _ _ (k : Int) _ HC.out).mono ?_
      rintro e w4 ⟨rfl, hb4⟩
      rw [HLB.out]
      have hwr : b ≤ wr.heap.size := HB.out.size |> fun h => by have := HC.out.lt; omega
      have HB4 := Lib.hid (HB.out.trans (hb4.mono hwr))
      have hb4s := hb4.size
      clear hb4
      go_wp2_with fail
      refine (known_any _).mono ?_
      rintro e w5 ⟨rfl, hb5⟩
      go_wp2_with fail
      go_ret
      exact ⟨rfl, by rw [hb0]; exact HB4.out.trans (hb5.mono (by omega))⟩

section
open Go.ChangeShapes Go.WideShapes Go.ChangeAt
variable {H : Type} {enc : TypeId × Value → H} {w : World} {base : Nat} {d : DataW H} {ps : List MemPlace} {v : Value}
set_option maxRecDepth 100000 in
theorem open_ops {r : Reach} {b0 : Nat} (hv : Value.okWide Try.prog w r b0 22 v) (h : DataW.Trod enc Try.prog w base (fun _ => true) true 22 v d ps) :
    ∃ a n cap, v = .slice a n cap ∧ (n : Int) ≤ 9223372036854775807 ∧ Ops w a n := by
  obtain ⟨a, n, cap, rfl⟩ := okWide_slice Try.underlying22 hv
  obtain ⟨fuel, hf⟩ := h
  have hc3 : Try.prog.cellsOf 28 = 3 := by kernel_rfl
  obtain ⟨h1, h2, h3, h4⟩ := open_rows Try.underlying22 (by rw [hc3]; omega) (by simpa [Value.cells] using hf)
  refine ⟨a, n, cap, rfl, by unfold maxLen at h3; omega, ?_⟩
  rcases h4 with h4 | ⟨b, off, rfl, hb, hi⟩
  · exact .inl h4
  · refine .inr ⟨b, off, rfl, hb, fun i hin => ?_⟩
    obtain ⟨cs, k, y, he, ht⟩ := hi i hin
    obtain ⟨v0, v1, v2, y0, y1, y2, m, rfl, g0, g1, g2⟩ := trod_three Try.underlying28 (by kernel_rfl) hc3 ht
    obtain ⟨x, hx, _, _⟩ := DataW.trod_int Try.underlying3 g0
    obtain ⟨z, hz, _, _⟩ := DataW.trod_int Try.underlying3 g1
    obtain ⟨s, hs, _, _⟩ := DataW.trod_int Try.underlying3 g2
    cases hx; cases hz; cases hs
    rw [hc3] at he
    exact ⟨x, z, s, he⟩

theorem once_frame (a0 a1 : Int) (v2 : Value) (w : World) {d2 : DataW H} {p2 : List MemPlace} (w0 : (Lit.int .u8 a0).wf = true) (w1 : (Lit.int .u8 a1).wf = true)
    (ok2 : Value.okWide Try.prog w .any base 22 v2) (k2 : DataW.Trod enc Try.prog w 0 (fun _ => true) true 22 v2 d2 p2) :
    Calls Try.prog 3 #[.int .u8 a0, .int .u8 a1, v2] w fun e w' => e = .returned (.bool true) ∧ Below w.heap.size w w' := by
  obtain ⟨s, rfl, hs⟩ := u8_nat w0
  obtain ⟨t, rfl, ht⟩ := u8_nat w1
  obtain ⟨a, n, cap, rfl, hn, hF⟩ := open_ops ok2 k2
  exact once_walk s t hs ht a n cap w hn hF
end
end Go.Proofs.Ytcicmpegajahkaa
