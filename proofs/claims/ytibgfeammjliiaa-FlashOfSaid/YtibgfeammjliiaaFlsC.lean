/-
  A flash in memory; CONTRACTS of what an operation does.
-/
import Derived.Test.YtibgfeammjliiaaFlsB
import Derived.BigRegion
set_option linter.unusedSimpArgs false
set_option linter.unusedVariables false
namespace Go.Proofs.Ytibgfeammjliiaa
open Go.RowKit
attribute [local go_sem] Oper.semAt_some

section
variable {w : World} {B : Nat} {bv wv : Value} {bs ws : List Int} {most : Int} {off : Bool} {ahead mask ops : Int}
/-- One byte is stored. -/
theorem Fls.byte {g n c : Nat} (h : Fls w B (.slice (some ⟨g, 0, none⟩) n c) wv bs ws most off ahead mask ops) (hn : n = bs.length) (k : Nat) (hk : k < n) (z : Int) :
    Fls (w.setCell ⟨g, k, none⟩ (.int .u8 z)) B (.slice (some ⟨g, 0, none⟩) n c) wv (bs.set k z) ws most off ahead mask ops := by
  have ha := h.apart
  have hu := (Upd.refl (· = g) w).setCell (p := ⟨g, k, none⟩) (fun _ => rfl) (.int .u8 z)
  subst hn
  refine ⟨hu.block_some h.1 (fun e => (ha.1 g rfl).1 e.symm), ?_, h.2.2.upd hu (fun j hj e => (ha.2 j hj).2 (by rw [e]; rfl))⟩
  rw [List.length_set, ← zv_set]
  exact h.2.1.stored k hk _
/-- One sector's wear is stored. -/
theorem Fls.worn {g n c : Nat} (h : Fls w B bv (.slice (some ⟨g, 0, none⟩) n c) bs ws most off ahead mask ops) (hn : n = ws.length) (k : Nat) (hk : k < n) (z : Int) :
    Fls (w.setCell ⟨g, k, none⟩ (.int .i64 z)) B bv (.slice (some ⟨g, 0, none⟩) n c) bs (ws.set k z) most off ahead mask ops := by
  have ha := h.apart
  have hu := (Upd.refl (· = g) w).setCell (p := ⟨g, k, none⟩) (fun _ => rfl) (.int .i64 z)
  subst hn
  refine ⟨hu.block_some h.1 (fun e => (ha.2 g rfl).1 e.symm), h.2.1.upd hu (fun j hj e => (ha.1 j hj).2 (by rw [e]; rfl)), ?_⟩
  rw [List.length_set]
  have := h.2.2.stored k hk (.int .i64 z)
  unfold iv at this ⊢
  rw [List.map_set]
  exact this
end

set_option maxHeartbeats 1000000 in
theorem all_any (B g n c : Nat) (wv : Value) (bs ws : List Int) (most : Int) (off : Bool) (ahead mask ops : Int) (k : Nat) (x z : Int) (w : World) (h : Fls w B (.slice (some ⟨g, 0, none⟩) n c) wv bs ws most off ahead mask ops) (hn : n = bs.length) (hz : bs[k]? = some z) :
    Calls Try.prog 32 #[.agg #[.pointer (some ⟨B, 0, none⟩), .int .u8 x], .int .i64 (k : Int)] w fun e w' => e = .returned (.tuple #[]) ∧ Fls w' B (.slice (some ⟨g, 0, none⟩) n c) wv (bs.set k (bits .and .u8 z x)) ws most off ahead mask ops ∧ Upd (· = g) w w' := by
  have hk : k < n := by subst hn; exact (List.getElem?_eq_some_iff.1 hz).1
  have dk : (k : Int) < (n : Int) := by omega
  have hac : n ≤ c := by
    obtain ⟨_, _, es, _, hac, hcm⟩ := h.2.1.shape
    injection es with _ en ec
    omega
  obtain ⟨W, hW⟩ : ∃ W, w.alloc (.cells #[.pointer (some ⟨B, 0, none⟩), .int .u8 x] 55) = W := ⟨_, rfl⟩
  have hS : W.heap[w.heap.size]? = some (.cells #[.pointer (some ⟨B, 0, none⟩), .int .u8 x] 55 (0, 0)) := by rw [← hW]; exact heap_alloc_new _ _
  have hU : Upd (fun _ => False) w W := by rw [← hW]; exact (Upd.refl _ w).alloc _
  have hF : Fls W B (.slice (some ⟨g, 0, none⟩) n c) wv bs ws most off ahead mask ops := h.upd hU (fun h => h) (fun _ _ h => h) (fun _ _ h => h)
  obtain ⟨c0, c1, c2, c3, c4, c5, c6⟩ := cells7 hF.1
  obtain ⟨s0, s1⟩ := cells2 hS
  have hF1 := hF.2.1
  rw [← hn] at hF1
  have hb : W.cell? ⟨g, k, none⟩ = some (.int .u8 z) := hF1.cell (by unfold zv; rw [List.getElem?_map, hz]; rfl)
  obtain ⟨hf, hgl⟩ := hF1.free k
  have HF := Lib.hid hF
  have HU := Lib.hid hU
  have HN := Lib.hid hn
  have HZ := Lib.hid hz
  clear h hF hF1 hU hn hz hgl hS
  go_enter Try.func32, Try.ntmps32
  go_wp2_with fail
  clear hW
  go_region
  go_wp2_with fail
  go_end0
  exact ⟨rfl, HF.out.byte HN.out k hk _, (Upd.setCell (S := fun j => j = g) (p := ⟨g, k, none⟩) (HU.out.mono (fun _ _ h => h.elim)) (fun _ => rfl) _).drew⟩
def someZ (z x mask : Int) : Int := bits .and .u8 z (bits .or .u8 x (bits .xor .u8 IntKind.u8.max (mask % 256)))

set_option maxHeartbeats 1000000 in
theorem some_any (B g n c : Nat) (wv : Value) (bs ws : List Int) (most : Int) (off : Bool) (ahead mask ops : Int) (k : Nat) (x z : Int) (w : World) (h : Fls w B (.slice (some ⟨g, 0, none⟩) n c) wv bs ws most off ahead mask ops) (hn : n = bs.length) (hz : bs[k]? = some z) :
    Calls Try.prog 33 #[.agg #[.pointer (some ⟨B, 0, none⟩), .int .u8 x], .int .i64 (k : Int)] w fun e w' => e = .returned (.tuple #[]) ∧ Fls w' B (.slice (some ⟨g, 0, none⟩) n c) wv (bs.set k (someZ z x mask)) ws most off ahead mask ops ∧ Upd (· = g) w w' := by
  have hk : k < n := by subst hn; exact (List.getElem?_eq_some_iff.1 hz).1
  have dk : (k : Int) < (n : Int) := by omega
  have hac : n ≤ c := by
    obtain ⟨_, _, es, _, hac, hcm⟩ := h.2.1.shape
    injection es with _ en ec
    omega
  obtain ⟨W, hW⟩ : ∃ W, w.alloc (.cells #[.pointer (some ⟨B, 0, none⟩), .int .u8 x] 55) = W := ⟨_, rfl⟩
  have hS : W.heap[w.heap.size]? = some (.cells #[.pointer (some ⟨B, 0, none⟩), .int .u8 x] 55 (0, 0)) := by rw [← hW]; exact heap_alloc_new _ _
  have hU : Upd (fun _ => False) w W := by rw [← hW]; exact (Upd.refl _ w).alloc _
  have hF : Fls W B (.slice (some ⟨g, 0, none⟩) n c) wv bs ws most off ahead mask ops := h.upd hU (fun h => h) (fun _ _ h => h) (fun _ _ h => h)
  obtain ⟨c0, c1, c2, c3, c4, c5, c6⟩ := cells7 hF.1
  obtain ⟨s0, s1⟩ := cells2 hS
  have hF1 := hF.2.1
  rw [← hn] at hF1
  have hb : W.cell? ⟨g, k, none⟩ = some (.int .u8 z) := hF1.cell (by unfold zv; rw [List.getElem?_map, hz]; rfl)
  obtain ⟨hf, hgl⟩ := hF1.free k
  have HF := Lib.hid hF
  have HU := Lib.hid hU
  have HN := Lib.hid hn
  have HZ := Lib.hid hz
  clear h hF hF1 hU hn hz hgl hS
  go_enter Try.func33, Try.ntmps33
  go_wp2_with fail
  clear hW
  go_region
  go_wp2_with fail
  go_end0
  exact ⟨rfl, HF.out.byte HN.out k hk _, (Upd.setCell (S := fun j => j = g) (p := ⟨g, k, none⟩) (HU.out.mono (fun _ _ h => h.elim)) (fun _ => rfl) _).drew⟩

/-- m bytes from f on are ones. -/
def fillZ (bs : List Int) (f : Nat) : Nat → List Int
  | 0 => bs
  | m + 1 => (fillZ bs f m).set (f + m) 255
theorem fillZ_length (bs : List Int) (f m : Nat) : (fillZ bs f m).length = bs.length := by
  induction m with
  | zero => rfl
  | succ m ih => unfold fillZ; rw [List.length_set, ih]
theorem fillZ_get (bs : List Int) (f m i : Nat) (h : f + m ≤ bs.length) : (fillZ bs f m)[i]? = if f ≤ i ∧ i < f + m then some 255 else bs[i]? := by
  induction m with
  | zero => rw [if_neg (by omega)]; rfl
  | succ m ih =>
    unfold fillZ
    rw [List.getElem?_set, ih (by omega), fillZ_length]
    by_cases e : f + m = i
    · rw [if_pos e, if_pos (by omega), if_pos (by omega)]
    · rw [if_neg e]
      by_cases h2 : f ≤ i ∧ i < f + m
      · rw [if_pos h2, if_pos (by omega)]
      · rw [if_neg h2, if_neg (by omega)]

set_option maxHeartbeats 1000000 in
theorem fill_any (B g n c : Nat) (wv : Value) (bs ws : List Int) (most : Int) (off : Bool) (ahead mask ops : Int) (s m : Nat) (w : World) (h : Fls w B (.slice (some ⟨g, 0, none⟩) n c) wv bs ws most off ahead mask ops) (hn : n = bs.length) (hs : s * 1024 + m ≤ n) (hnB : (n : Int) ≤ 8192) :
    Calls Try.prog 39 #[.pointer (some ⟨B, 0, none⟩), .int .i64 (s : Int), .int .i64 (m : Int)] w fun e w' => e = .returned (.tuple #[]) ∧ Fls w' B (.slice (some ⟨g, 0, none⟩) n c) wv (fillZ bs (s * 1024) m) ws most off ahead mask ops ∧ Upd (· = g) w w' := by
  obtain ⟨f, hf⟩ : ∃ f, s * 1024 = f := ⟨_, rfl⟩
  rw [hf] at hs ⊢
  have d1 : (s : Int) * 1024 = (f : Int) := by omega
  have hac : n ≤ c := by
    obtain ⟨_, _, es, _, hac, hcm⟩ := h.2.1.shape
    injection es with _ en ec
    omega
  have HF := Lib.hid h
  have HN := Lib.hid hn
  have hs2 : (f : Int) + (m : Int) ≤ (n : Int) := by omega
  clear h hn hf hs
  go_enter Try.func39, Try.ntmps39
  go_wp2_with fail
  go_loopg [7] m (fun gg i wr => ∃ k : Nat, k ≤ m ∧ gg = m - k ∧ i = .int .i64 ((f + k : Nat) : Int) ∧ Upd (· = g) w wr ∧ Fls wr B (.slice (some ⟨g, 0, none⟩) n c) wv (fillZ bs f k) ws most off ahead mask ops)
  case atStart => exact ⟨0, by omega, by omega, rfl, Upd.refl _ _, HF.out⟩
  case round =>
    obtain ⟨k, hk, hgk, rfl, hU, hF⟩ := hrel
    have HG := Lib.hid hgk
    have HU := Lib.hid hU
    have HL := Lib.hid hF
    have hL1 := hF.2.1
    rw [fillZ_length, ← HN.out] at hL1
    obtain ⟨c0, c1, c2, c3, c4, c5, c6⟩ := cells7 hF.1
    clear hgk hU hF
    obtain ⟨q, hq⟩ : ∃ q, f + k = q := ⟨_, rfl⟩
    rw [hq]
    have hqk : (q : Int) = (f : Int) + (k : Int) := by omega
    by_cases hkm : k < m
    · have dk : (q : Int) < (f : Int) + (m : Int) := by omega
      have dq : (q : Int) < (n : Int) := by omega
      obtain ⟨z, hz⟩ : ∃ z, (fillZ bs f k)[q]? = some z := ⟨_, List.getElem?_eq_getElem (by rw [fillZ_length, ← HN.out]; omega)⟩
      have hc := hL1.cell (j := q) (u := .int .u8 z) (by unfold zv; rw [List.getElem?_map, hz]; rfl)
      obtain ⟨hf, _⟩ := hL1.free q
      clear hz hL1
      have HQ := Lib.hid hq
      clear hq hqk
      go_wp2_with fail
      go_roundg (m - (k + 1))
      case measure => have := HG.out; omega
      case rel =>
        refine ⟨k + 1, by omega, rfl, by have := HQ.out; go_num, HU.out.setCell (p := ⟨g, q, none⟩) (fun _ => rfl) _, ?_⟩
        have := HL.out.byte (by rw [fillZ_length]; exact HN.out) q (by omega) 255
        rw [← HQ.out] at this
        have h2 := HQ.out
        subst h2
        exact this
    · obtain rfl : k = m := by omega
      clear hL1 hkm
      have HQ := Lib.hid hq
      clear hq
      go_wp2_with fail
      go_end0
      exact ⟨rfl, HL.out, HU.out⟩
end Go.Proofs.Ytibgfeammjliiaa
