/-
  A flash in memory; CONTRACTS of erase, begin, and of an operation whole and torn.
-/
import Derived.Test.YtibgfeammjliiaaFlsC
set_option linter.unusedSimpArgs false
set_option linter.unusedVariables false
namespace Go.Proofs.Ytibgfeammjliiaa
open Go.RowKit
attribute [local go_sem] Oper.semAt_some

def nextA (ahead : Int) : Int := if 0 < ahead then ahead - 1 else ahead

theorem erase_in (B g n c : Nat) (wv : Value) (bs ws : List Int) (most : Int) (off : Bool) (ahead mask ops : Int) (s : Nat) (w : World) (h : Fls w B (.slice (some ⟨g, 0, none⟩) n c) wv bs ws most off ahead mask ops) (hn : n = bs.length) (hs : s * 1024 + 1024 ≤ n) (hnB : (n : Int) ≤ 8192) :
    Calls Try.prog 34 #[.pointer (some ⟨B, 0, none⟩), .int .i64 (s : Int)] w fun e w' => e = .returned (.tuple #[]) ∧ Fls w' B (.slice (some ⟨g, 0, none⟩) n c) wv (fillZ bs (s * 1024) 1024) ws most off ahead mask ops ∧ Upd (· = g) w w' := by
  have HC := Lib.hid (fill_any B g n c wv bs ws most off ahead mask ops s 1024 w h hn hs hnB)
  clear h hn hs hnB
  go_enter Try.func34, Try.ntmps34
  go_wp2_with fail
  refine HC.out.mono ?_
  rintro e w1 ⟨rfl, hF, hU⟩
  have HF := Lib.hid (And.intro hF hU)
  clear hF hU
  go_wp2_with fail
  go_end0
  exact ⟨rfl, HF.out⟩
def cutN (mask : Int) : Nat := (mask % 1025).toNat
theorem begin_in (B g n c : Nat) (wv : Value) (bs ws : List Int) (most : Int) (off : Bool) (ahead mask ops : Int) (s : Nat) (w : World) (h : Fls w B (.slice (some ⟨g, 0, none⟩) n c) wv bs ws most off ahead mask ops) (hn : n = bs.length) (hs : s * 1024 + 1024 ≤ n) (hnB : (n : Int) ≤ 8192) (hm : 0 ≤ mask ∧ mask < 4294967296) :
    Calls Try.prog 35 #[.pointer (some ⟨B, 0, none⟩), .int .i64 (s : Int)] w fun e w' => e = .returned (.tuple #[]) ∧ Fls w' B (.slice (some ⟨g, 0, none⟩) n c) wv (fillZ bs (s * 1024) (cutN mask)) ws most off ahead mask ops ∧ Upd (· = g) w w' := by
  have hcn : cutN mask ≤ 1024 := by unfold cutN; omega
  have HC := Lib.hid (fill_any B g n c wv bs ws most off ahead mask ops s (cutN mask) w h hn (by omega) hnB)
  obtain ⟨c0, c1, c2, c3, c4, c5, c6⟩ := cells7 h.1
  obtain ⟨q, hq⟩ : ∃ q, cutN mask = q := ⟨_, rfl⟩
  have d1 : mask.tmod 1025 = (q : Int) := by rw [Int.tmod_eq_emod_of_nonneg (by omega), ← hq]; unfold cutN; omega
  have d2 : (q : Int) ≤ 1024 := by omega
  have d0 : 0 ≤ mask := hm.1
  rw [hq] at HC ⊢
  clear h hn hs hnB hq hcn hm
  go_enter Try.func35, Try.ntmps35
  go_wp2_with fail
  refine HC.out.mono ?_
  rintro e w1 ⟨rfl, hF, hU⟩
  have HF := Lib.hid (And.intro hF hU)
  clear hF hU
  go_wp2_with fail
  go_end0
  exact ⟨rfl, HF.out⟩

set_option maxHeartbeats 1000000 in
theorem do_erase_whole (B g n c : Nat) (wv : Value) (bs ws : List Int) (most : Int) (off : Bool) (ahead mask ops : Int) (s : Nat) (w : World) (h : Fls w B (.slice (some ⟨g, 0, none⟩) n c) wv bs ws most off ahead mask ops) (hn : n = bs.length) (hs : s * 1024 + 1024 ≤ n) (hnB : (n : Int) ≤ 8192) (ha : ahead ≠ 0) (hm : ahead ≤ 9223372036854775807) (ho : 0 ≤ ops ∧ ops ≤ 1000000) :
    Calls Try.prog 31 #[.pointer (some ⟨B, 0, none⟩), .int .i64 (s : Int), .func (.func 34) #[.pointer (some ⟨B, 0, none⟩)] #[], .func (.func 35) #[.pointer (some ⟨B, 0, none⟩)] #[]] w fun e w' => e = .returned (.int .i64 0) ∧ Fls w' B (.slice (some ⟨g, 0, none⟩) n c) wv (fillZ bs (s * 1024) 1024) ws most off (nextA ahead) mask (ops + 1) ∧ Upd (fun i => i = B ∨ i = g) w w' := by
  have HF := Lib.hid h
  have HH := Lib.hid (And.intro hn (And.intro hm ho))
  obtain ⟨c0, c1, c2, c3, c4, c5, c6⟩ := cells7 h.1
  have f4 := free_of h.1 4
  have f6 := free_of h.1 6
  have d0 : (ahead == 0) = false := beq_eq_false_iff_ne.2 ha
  obtain ⟨o1, o2⟩ := ho
  have hA := Lib.hid ha
  have hgB := Lib.hid (h.apart.1 g rfl).1
  by_cases hp : 0 < ahead
  · have d1 : decide (0 < ahead) = true := decide_eq_true hp
    obtain ⟨W, hW⟩ : ∃ W, (w.setCell ⟨B, 4, none⟩ (.int .i64 (ahead - 1))).setCell ⟨B, 6, none⟩ (.int .i64 (ops + 1)) = W := ⟨_, rfl⟩
    have hF2 : Fls W B (.slice (some ⟨g, 0, none⟩) n c) wv bs ws most off (ahead - 1) mask (ops + 1) := by
      rw [← hW]
      exact (h.field 4 (.int .i64 (ahead - 1)) (most' := most) (off' := off) (ahead' := ahead - 1) (mask' := mask) (ops' := ops) rfl).field 6 (.int .i64 (ops + 1)) (most' := most) (off' := off) (ahead' := ahead - 1) (mask' := mask) (ops' := ops + 1) rfl
    have hU : Upd (fun i => i = B ∨ i = g) w W := by rw [← hW]; exact ((Upd.refl _ w).setCell (p := ⟨B, 4, none⟩) (fun _ => .inl rfl) _).setCell (p := ⟨B, 6, none⟩) (fun _ => .inl rfl) _
    have HC := Lib.hid (erase_in B g n c wv bs ws most off (ahead - 1) mask (ops + 1) s W hF2 hn hs hnB)
    have HU := Lib.hid hU
    have en : nextA ahead = ahead - 1 := by unfold nextA; rw [if_pos hp]
    rw [en]
    clear h hF2 hU ha hn hs hnB en
    go_enter Try.func31, Try.ntmps31
    go_wp2_with fail
    refine HC.out.mono ?_
    rintro e w1 ⟨rfl, hF, hU⟩
    have HF := Lib.hid (And.intro hF hU)
    clear hF hU
    go_wp2_with fail
    go_ret
    exact ⟨rfl, HF.out.1, HU.out.trans HF.out.2 (fun i _ h => .inr h)⟩
  · have d1 : decide (0 < ahead) = false := decide_eq_false hp
    obtain ⟨W, hW⟩ : ∃ W, w.setCell ⟨B, 6, none⟩ (.int .i64 (ops + 1)) = W := ⟨_, rfl⟩
    have hF2 : Fls W B (.slice (some ⟨g, 0, none⟩) n c) wv bs ws most off ahead mask (ops + 1) := by
      rw [← hW]
      exact h.field 6 (.int .i64 (ops + 1)) (most' := most) (off' := off) (ahead' := ahead) (mask' := mask) (ops' := ops + 1) rfl
    have hU : Upd (fun i => i = B ∨ i = g) w W := by rw [← hW]; exact (Upd.refl _ w).setCell (p := ⟨B, 6, none⟩) (fun _ => .inl rfl) _
    have HC := Lib.hid (erase_in B g n c wv bs ws most off ahead mask (ops + 1) s W hF2 hn hs hnB)
    have HU := Lib.hid hU
    have en : nextA ahead = ahead := by unfold nextA; rw [if_neg hp]
    rw [en]
    clear h hF2 hU ha hn hs hnB en hp
    go_enter Try.func31, Try.ntmps31
    go_wp2_with fail
    refine HC.out.mono ?_
    rintro e w1 ⟨rfl, hF, hU⟩
    have HF := Lib.hid (And.intro hF hU)
    clear hF hU
    go_wp2_with fail
    go_ret
    exact ⟨rfl, HF.out.1, HU.out.trans HF.out.2 (fun i _ h => .inr h)⟩

set_option maxHeartbeats 1000000 in
theorem do_erase_torn (B g n c : Nat) (wv : Value) (bs ws : List Int) (most : Int) (off : Bool) (mask ops : Int) (s : Nat) (w : World) (h : Fls w B (.slice (some ⟨g, 0, none⟩) n c) wv bs ws most off 0 mask ops) (hn : n = bs.length) (hs : s * 1024 + 1024 ≤ n) (hnB : (n : Int) ≤ 8192) (hmk : 0 ≤ mask ∧ mask < 4294967296) :
    Calls Try.prog 31 #[.pointer (some ⟨B, 0, none⟩), .int .i64 (s : Int), .func (.func 34) #[.pointer (some ⟨B, 0, none⟩)] #[], .func (.func 35) #[.pointer (some ⟨B, 0, none⟩)] #[]] w fun e w' => e = .returned (.int .i64 7) ∧ Fls w' B (.slice (some ⟨g, 0, none⟩) n c) wv (fillZ bs (s * 1024) (cutN mask)) ws most true (-1) mask ops ∧ Upd (fun i => i = B ∨ i = g) w w' := by
  obtain ⟨c0, c1, c2, c3, c4, c5, c6⟩ := cells7 h.1
  have HC := Lib.hid (begin_in B g n c wv bs ws most off 0 mask ops s w h hn hs hnB hmk)
  clear h hn hs hnB hmk
  go_enter Try.func31, Try.ntmps31
  go_wp2_with fail
  refine HC.out.mono ?_
  rintro e w1 ⟨rfl, hF, hU⟩
  obtain ⟨k0, k1, k2, k3, k4, k5, k6⟩ := cells7 hF.1
  have f3 := free_of hF.1 3
  have f4 := free_of hF.1 4
  have HF := Lib.hid ((hF.field 4 (.int .i64 (-1)) (most' := most) (off' := off) (ahead' := -1) (mask' := mask) (ops' := ops) rfl).field 3 (.bool true) (most' := most) (off' := true) (ahead' := -1) (mask' := mask) (ops' := ops) rfl)
  have HU := Lib.hid (((hU.mono (T := fun i => i = B ∨ i = g) (fun i _ h => .inr h)).setCell (p := ⟨B, 4, none⟩) (fun _ => .inl rfl) (.int .i64 (-1))).setCell (p := ⟨B, 3, none⟩) (fun _ => .inl rfl) (.bool true))
  clear hF hU
  go_wp2_with fail
  go_ret
  exact ⟨rfl, HF.out, HU.out⟩

set_option maxHeartbeats 1000000 in
theorem do_prog_whole (B g n c : Nat) (wv : Value) (bs ws : List Int) (most : Int) (off : Bool) (ahead mask ops : Int) (s : Nat) (x z : Int) (w : World) (h : Fls w B (.slice (some ⟨g, 0, none⟩) n c) wv bs ws most off ahead mask ops) (hn : n = bs.length) (hz : bs[s]? = some z) (ha : ahead ≠ 0) (hm : ahead ≤ 9223372036854775807) (ho : 0 ≤ ops ∧ ops ≤ 1000000) :
    Calls Try.prog 31 #[.pointer (some ⟨B, 0, none⟩), .int .i64 (s : Int), .func (.func 32) #[.agg #[.pointer (some ⟨B, 0, none⟩), .int .u8 x]] #[], .func (.func 33) #[.agg #[.pointer (some ⟨B, 0, none⟩), .int .u8 x]] #[]] w fun e w' => e = .returned (.int .i64 0) ∧ Fls w' B (.slice (some ⟨g, 0, none⟩) n c) wv (bs.set s (bits .and .u8 z x)) ws most off (nextA ahead) mask (ops + 1) ∧ Upd (fun i => i = B ∨ i = g) w w' := by
  have HF := Lib.hid h
  have HH := Lib.hid (And.intro hn (And.intro hm ho))
  obtain ⟨c0, c1, c2, c3, c4, c5, c6⟩ := cells7 h.1
  have f4 := free_of h.1 4
  have f6 := free_of h.1 6
  have d0 : (ahead == 0) = false := beq_eq_false_iff_ne.2 ha
  obtain ⟨o1, o2⟩ := ho
  have hA := Lib.hid ha
  have hgB := Lib.hid (h.apart.1 g rfl).1
  by_cases hp : 0 < ahead
  · have d1 : decide (0 < ahead) = true := decide_eq_true hp
    obtain ⟨W, hW⟩ : ∃ W, (w.setCell ⟨B, 4, none⟩ (.int .i64 (ahead - 1))).setCell ⟨B, 6, none⟩ (.int .i64 (ops + 1)) = W := ⟨_, rfl⟩
    have hF2 : Fls W B (.slice (some ⟨g, 0, none⟩) n c) wv bs ws most off (ahead - 1) mask (ops + 1) := by
      rw [← hW]
      exact (h.field 4 (.int .i64 (ahead - 1)) (most' := most) (off' := off) (ahead' := ahead - 1) (mask' := mask) (ops' := ops) rfl).field 6 (.int .i64 (ops + 1)) (most' := most) (off' := off) (ahead' := ahead - 1) (mask' := mask) (ops' := ops + 1) rfl
    have hU : Upd (fun i => i = B ∨ i = g) w W := by rw [← hW]; exact ((Upd.refl _ w).setCell (p := ⟨B, 4, none⟩) (fun _ => .inl rfl) _).setCell (p := ⟨B, 6, none⟩) (fun _ => .inl rfl) _
    have HC := Lib.hid (all_any B g n c wv bs ws most off (ahead - 1) mask (ops + 1) s x z W hF2 hn hz)
    have HU := Lib.hid hU
    have en : nextA ahead = ahead - 1 := by unfold nextA; rw [if_pos hp]
    rw [en]
    clear h hF2 hU ha hn hz en
    go_enter Try.func31, Try.ntmps31
    go_wp2_with fail
    refine HC.out.mono ?_
    rintro e w1 ⟨rfl, hF, hU⟩
    have HF := Lib.hid (And.intro hF hU)
    clear hF hU
    go_wp2_with fail
    go_ret
    exact ⟨rfl, HF.out.1, HU.out.trans HF.out.2 (fun i _ h => .inr h)⟩
  · have d1 : decide (0 < ahead) = false := decide_eq_false hp
    obtain ⟨W, hW⟩ : ∃ W, w.setCell ⟨B, 6, none⟩ (.int .i64 (ops + 1)) = W := ⟨_, rfl⟩
    have hF2 : Fls W B (.slice (some ⟨g, 0, none⟩) n c) wv bs ws most off ahead mask (ops + 1) := by
      rw [← hW]
      exact h.field 6 (.int .i64 (ops + 1)) (most' := most) (off' := off) (ahead' := ahead) (mask' := mask) (ops' := ops + 1) rfl
    have hU : Upd (fun i => i = B ∨ i = g) w W := by rw [← hW]; exact (Upd.refl _ w).setCell (p := ⟨B, 6, none⟩) (fun _ => .inl rfl) _
    have HC := Lib.hid (all_any B g n c wv bs ws most off ahead mask (ops + 1) s x z W hF2 hn hz)
    have HU := Lib.hid hU
    have en : nextA ahead = ahead := by unfold nextA; rw [if_neg hp]
    rw [en]
    clear h hF2 hU ha hn hz en hp
    go_enter Try.func31, Try.ntmps31
    go_wp2_with fail
    refine HC.out.mono ?_
    rintro e w1 ⟨rfl, hF, hU⟩
    have HF := Lib.hid (And.intro hF hU)
    clear hF hU
    go_wp2_with fail
    go_ret
    exact ⟨rfl, HF.out.1, HU.out.trans HF.out.2 (fun i _ h => .inr h)⟩

set_option maxHeartbeats 1000000 in
theorem do_prog_torn (B g n c : Nat) (wv : Value) (bs ws : List Int) (most : Int) (off : Bool) (mask ops : Int) (s : Nat) (x z : Int) (w : World) (h : Fls w B (.slice (some ⟨g, 0, none⟩) n c) wv bs ws most off 0 mask ops) (hn : n = bs.length) (hz : bs[s]? = some z) :
    Calls Try.prog 31 #[.pointer (some ⟨B, 0, none⟩), .int .i64 (s : Int), .func (.func 32) #[.agg #[.pointer (some ⟨B, 0, none⟩), .int .u8 x]] #[], .func (.func 33) #[.agg #[.pointer (some ⟨B, 0, none⟩), .int .u8 x]] #[]] w fun e w' => e = .returned (.int .i64 7) ∧ Fls w' B (.slice (some ⟨g, 0, none⟩) n c) wv (bs.set s (someZ z x mask)) ws most true (-1) mask ops ∧ Upd (fun i => i = B ∨ i = g) w w' := by
  obtain ⟨c0, c1, c2, c3, c4, c5, c6⟩ := cells7 h.1
  have HC := Lib.hid (some_any B g n c wv bs ws most off 0 mask ops s x z w h hn hz)
  clear h hn hz
  go_enter Try.func31, Try.ntmps31
  go_wp2_with fail
  refine HC.out.mono ?_
  rintro e w1 ⟨rfl, hF, hU⟩
  obtain ⟨k0, k1, k2, k3, k4, k5, k6⟩ := cells7 hF.1
  have f3 := free_of hF.1 3
  have f4 := free_of hF.1 4
  have HF := Lib.hid ((hF.field 4 (.int .i64 (-1)) (most' := most) (off' := off) (ahead' := -1) (mask' := mask) (ops' := ops) rfl).field 3 (.bool true) (most' := most) (off' := true) (ahead' := -1) (mask' := mask) (ops' := ops) rfl)
  have HU := Lib.hid (((hU.mono (T := fun i => i = B ∨ i = g) (fun i _ h => .inr h)).setCell (p := ⟨B, 4, none⟩) (fun _ => .inl rfl) (.int .i64 (-1))).setCell (p := ⟨B, 3, none⟩) (fun _ => .inl rfl) (.bool true))
  clear hF hU
  go_wp2_with fail
  go_ret
  exact ⟨rfl, HF.out, HU.out⟩
end Go.Proofs.Ytibgfeammjliiaa
