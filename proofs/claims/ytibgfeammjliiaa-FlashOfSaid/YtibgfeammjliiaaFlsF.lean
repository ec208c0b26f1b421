/-
  A flash in memory; CONTRACTS of Program.
-/
import Derived.Test.YtibgfeammjliiaaFlsE
set_option linter.unusedSimpArgs false
set_option linter.unusedVariables false
namespace Go.Proofs.Ytibgfeammjliiaa
open Go.RowKit
attribute [local go_sem] Oper.semAt_some

/-- The first m bytes of xs are programmed from k on. -/
def progZ (bs : List Int) (k : Nat) (xs : List Int) : Nat → List Int
  | 0 => bs
  | m + 1 => (progZ bs k xs m).set (k + m) (bits .and .u8 ((bs[k + m]?).getD 0) ((xs[m]?).getD 0))
theorem progZ_length (bs : List Int) (k : Nat) (xs : List Int) (m : Nat) : (progZ bs k xs m).length = bs.length := by
  induction m with
  | zero => rfl
  | succ m ih => unfold progZ; rw [List.length_set, ih]
theorem progZ_get (bs : List Int) (k : Nat) (xs : List Int) (m i : Nat) (h : k + m ≤ bs.length) :
    (progZ bs k xs m)[i]? = if k ≤ i ∧ i < k + m then some (bits .and .u8 ((bs[i]?).getD 0) ((xs[i - k]?).getD 0)) else bs[i]? := by
  induction m with
  | zero => rw [if_neg (by omega)]; rfl
  | succ m ih =>
    unfold progZ
    rw [List.getElem?_set, ih (by omega), progZ_length]
    by_cases e : k + m = i
    · subst e
      rw [if_pos rfl, if_pos (by omega), if_pos (by omega), show k + m - k = m from by omega]
    · rw [if_neg e]
      by_cases h2 : k ≤ i ∧ i < k + m
      · rw [if_pos h2, if_pos (by omega)]
      · rw [if_neg h2, if_neg (by omega)]

/-- What a row of bytes that is handed in reads as. -/
def Reads (w : World) (B g : Nat) (a : Option Addr) (xs : List Int) : Prop :=
  xs = [] ∨ ∃ b o, a = some ⟨b, o, none⟩ ∧ b ≠ B ∧ b ≠ g ∧ ∀ j z, xs[j]? = some z → w.cell? ⟨b, o + j, none⟩ = some (.int .u8 z)
theorem Reads.upd {w w' : World} {B g : Nat} {a : Option Addr} {xs : List Int} (h : Reads w B g a xs) (hu : Upd (fun i => i = B ∨ i = g) w w') : Reads w' B g a xs := by
  rcases h with h | ⟨b, o, e, h1, h2, h3⟩
  · exact .inl h
  · exact .inr ⟨b, o, e, h1, h2, fun j z hz => hu.cell_some (h3 j z hz) (fun h => h.elim h1 h2)⟩

set_option maxRecDepth 100000 in
set_option maxHeartbeats 2000000 in
theorem prog_whole (B g n c : Nat) (wv : Value) (bs ws : List Int) (most : Int) (mask ops : Int) (k : Nat) (xa : Option Addr) (xs : List Int) (xc m : Nat) (w : World) (h : Fls w B (.slice (some ⟨g, 0, none⟩) n c) wv bs ws most false (-1) mask ops) (hn : n = bs.length) (hk : k + m ≤ n) (hm : m = xs.length) (hx : Reads w B g xa xs) (hnB : (n : Int) ≤ 8192) (ho : 0 ≤ ops ∧ ops ≤ 500000) (hxc : m ≤ xc) :
    Calls Try.prog 9 #[.pointer (some ⟨B, 0, none⟩), .int .i64 (k : Int), .slice xa m xc] w fun e w' => e = .returned (.int .i64 0) ∧ Fls w' B (.slice (some ⟨g, 0, none⟩) n c) wv (progZ bs k xs m) ws most false (-1) mask (ops + m) ∧ Upd (fun i => i = B ∨ i = g) w w' := by
  have HC := Lib.hid (room_ok B g n c wv bs ws most (-1) mask ops k m w h hk hnB)
  have HF := Lib.hid h
  have HX := Lib.hid hx
  have HH := Lib.hid (And.intro hn (And.intro hk (And.intro hm ho)))
  have d2 : (m : Int) ≤ (n : Int) - (k : Int) := by omega
  clear h hx hn hk hm ho
  go_enter Try.func9, Try.ntmps9
  go_wp2_with fail
  refine HC.out.mono ?_
  rintro e w1 ⟨rfl, rfl⟩
  go_wp2_with fail
  go_loopg [22] m (fun gg i wr => ∃ q : Nat, q ≤ m ∧ gg = m - q ∧ i = .int .i64 (q : Int) ∧ Upd (fun i => i = B ∨ i = g) w wr ∧ Fls wr B (.slice (some ⟨g, 0, none⟩) n c) wv (progZ bs k xs q) ws most false (-1) mask (ops + q))
  case atStart => exact ⟨0, by omega, by omega, rfl, Upd.refl _ _, by simpa [progZ] using HF.out⟩
  case round =>
    obtain ⟨q, hq, hgk, rfl, hU, hF⟩ := hrel
    have HG := Lib.hid hgk
    have HU := Lib.hid hU
    have HL := Lib.hid hF
    clear hgk hU hF
    by_cases hqm : q < m
    · have dq : (q : Int) < (m : Int) := by omega
      obtain ⟨x, hx⟩ : ∃ x, xs[q]? = some x := ⟨_, List.getElem?_eq_getElem (by rw [← HH.out.2.2.1]; omega)⟩
      obtain ⟨b, o, rfl, h1, h2, h3⟩ := (HX.out.upd HU.out).resolve_left (fun e => by rw [e] at hx; cases hx)
      have cx := h3 q x hx
      clear h3
      obtain ⟨p, hp⟩ : ∃ p, k + q = p := ⟨_, rfl⟩
      have dp : (k : Int) + (q : Int) = (p : Int) := by omega
      obtain ⟨z, hz⟩ : ∃ z, bs[p]? = some z := ⟨_, List.getElem?_eq_getElem (by have := HH.out; omega)⟩
      have HP := Lib.hid (And.intro hp (And.intro hx hz))
      clear hp hx hz
      go_wp2_with fail
      have hU2 := HU.out.alloc (.cells #[.pointer (some ⟨B, 0, none⟩), .int .u8 x] 55)
      refine (do_prog_whole B g n c wv (progZ bs k xs q) ws most false (-1) mask (ops + q) p x z _ (HL.out.upd ((Upd.refl (fun _ => False) wr).alloc _) (fun h => h) (fun _ _ h => h) (fun _ _ h => h)) (by rw [progZ_length]; exact HH.out.1) (by rw [progZ_get _ _ _ _ _ (by have := HH.out; have := HP.out; omega), if_neg (by have := HP.out; omega)]; exact HP.out.2.2) (by decide) (by decide) (by have := HH.out; omega)).mono ?_
      rintro e w2 ⟨rfl, hF3, hU3⟩
      have hU4 := hU2.trans hU3 (fun i _ h => h)
      have en : (progZ bs k xs q).set p (bits .and .u8 z x) = progZ bs k xs (q + 1) := by
        have := HP.out
        rw [progZ, this.1, this.2.1, this.2.2]
        rfl
      rw [en] at hF3
      have HF3 := Lib.hid (And.intro hF3 hU4)
      clear hU2 hU3 hU4 hF3 en
      go_wp2_with fail
      go_roundg (m - (q + 1))
      case measure => have := HG.out; omega
      case rel =>
        refine ⟨q + 1, by omega, rfl, by go_num, HF3.out.2, ?_⟩
        have := HF3.out.1
        rw [show ops + ((q + 1 : Nat) : Int) = ops + (q : Int) + 1 from by omega]
        exact this
    · obtain rfl : q = m := by omega
      clear hqm
      go_wp2_with fail
      go_ret
      exact ⟨rfl, HL.out, HU.out⟩

set_option maxRecDepth 100000 in
set_option maxHeartbeats 2000000 in
theorem prog_torn (B g n c : Nat) (wv : Value) (bs ws : List Int) (most : Int) (mask ops : Int) (k : Nat) (xa : Option Addr) (xs : List Int) (xc m j : Nat) (w : World) (h : Fls w B (.slice (some ⟨g, 0, none⟩) n c) wv bs ws most false (j : Int) mask ops) (hn : n = bs.length) (hk : k + m ≤ n) (hm : m = xs.length) (hx : Reads w B g xa xs) (hnB : (n : Int) ≤ 8192) (ho : 0 ≤ ops ∧ ops ≤ 500000) (hxc : m ≤ xc) (hj : j < m) (x0 z0 : Int) (hx0 : xs[j]? = some x0) (hz0 : bs[k + j]? = some z0) :
    Calls Try.prog 9 #[.pointer (some ⟨B, 0, none⟩), .int .i64 (k : Int), .slice xa m xc] w fun e w' => e = .returned (.int .i64 7) ∧ Fls w' B (.slice (some ⟨g, 0, none⟩) n c) wv ((progZ bs k xs j).set (k + j) (someZ z0 x0 mask)) ws most true (-1) mask (ops + j) ∧ Upd (fun i => i = B ∨ i = g) w w' := by
  have HC := Lib.hid (room_ok B g n c wv bs ws most j mask ops k m w h hk hnB)
  have HF := Lib.hid h
  have HX := Lib.hid hx
  have HJ := Lib.hid (And.intro hx0 hz0)
  have HH := Lib.hid (And.intro hn (And.intro hk (And.intro hm ho)))
  have d2 : (m : Int) ≤ (n : Int) - (k : Int) := by omega
  clear h hx hn hk hm ho hx0 hz0
  go_enter Try.func9, Try.ntmps9
  go_wp2_with fail
  refine HC.out.mono ?_
  rintro e w1 ⟨rfl, rfl⟩
  go_wp2_with fail
  go_loopg [22] m (fun gg i wr => ∃ q : Nat, q ≤ j ∧ gg = m - q ∧ i = .int .i64 (q : Int) ∧ Upd (fun i => i = B ∨ i = g) w wr ∧ Fls wr B (.slice (some ⟨g, 0, none⟩) n c) wv (progZ bs k xs q) ws most false (((j - q : Nat) : Int)) mask (ops + q))
  case atStart => exact ⟨0, by omega, by omega, rfl, Upd.refl _ _, by simpa [progZ] using HF.out⟩
  case round =>
    obtain ⟨q, hq, hgk, rfl, hU, hF⟩ := hrel
    have HG := Lib.hid hgk
    have HU := Lib.hid hU
    have HL := Lib.hid hF
    clear hgk hU hF
    by_cases hqj : q < j
    · have hqm : q < m := by omega
      have dq : (q : Int) < (m : Int) := by omega
      obtain ⟨x, hx⟩ : ∃ x, xs[q]? = some x := ⟨_, List.getElem?_eq_getElem (by rw [← HH.out.2.2.1]; omega)⟩
      obtain ⟨b, o, rfl, h1, h2, h3⟩ := (HX.out.upd HU.out).resolve_left (fun e => by rw [e] at hx; cases hx)
      have cx := h3 q x hx
      clear h3
      obtain ⟨p, hp⟩ : ∃ p, k + q = p := ⟨_, rfl⟩
      have dp : (k : Int) + (q : Int) = (p : Int) := by omega
      obtain ⟨z, hz⟩ : ∃ z, bs[p]? = some z := ⟨_, List.getElem?_eq_getElem (by have := HH.out; omega)⟩
      have HP := Lib.hid (And.intro hp (And.intro hx hz))
      clear hp hx hz
      go_wp2_with fail
      have hU2 := HU.out.alloc (.cells #[.pointer (some ⟨B, 0, none⟩), .int .u8 x] 55)
      refine (do_prog_whole B g n c wv (progZ bs k xs q) ws most false (((j - q : Nat) : Int)) mask (ops + q) p x z _ (HL.out.upd ((Upd.refl (fun _ => False) wr).alloc _) (fun h => h) (fun _ _ h => h) (fun _ _ h => h)) (by rw [progZ_length]; exact HH.out.1) (by rw [progZ_get _ _ _ _ _ (by have := HH.out; have := HP.out; omega), if_neg (by have := HP.out; omega)]; exact HP.out.2.2) (by omega) (by have := HH.out; omega) (by have := HH.out; omega)).mono ?_
      rintro e w2 ⟨rfl, hF3, hU3⟩
      have hU4 := hU2.trans hU3 (fun i _ h => h)
      have ea : nextA ((j - q : Nat) : Int) = ((j - (q + 1) : Nat) : Int) := by unfold nextA; rw [if_pos (by omega)]; omega
      rw [ea] at hF3
      have en : (progZ bs k xs q).set p (bits .and .u8 z x) = progZ bs k xs (q + 1) := by
        have := HP.out
        rw [progZ, this.1, this.2.1, this.2.2]
        rfl
      rw [en] at hF3
      have HF3 := Lib.hid (And.intro hF3 hU4)
      clear hU2 hU3 hU4 hF3 en ea
      go_wp2_with fail
      go_roundg (m - (q + 1))
      case measure => have := HG.out; omega
      case rel =>
        refine ⟨q + 1, by omega, rfl, by go_num, HF3.out.2, ?_⟩
        have := HF3.out.1
        rw [show ops + ((q + 1 : Nat) : Int) = ops + (q : Int) + 1 from by omega]
        exact this
    · obtain rfl : q = j := by omega
      have hqm : q < m := hj
      have dq : (q : Int) < (m : Int) := by omega
      rw [Nat.sub_self] at HL
      obtain ⟨b, o, rfl, h1, h2, h3⟩ := (HX.out.upd HU.out).resolve_left (fun e => by have := HJ.out.1; rw [e] at this; cases this)
      have cx := h3 q x0 HJ.out.1
      clear h3
      obtain ⟨p, hp⟩ : ∃ p, k + q = p := ⟨_, rfl⟩
      rw [hp] at HJ
      have dp : (k : Int) + (q : Int) = (p : Int) := by omega
      have HP := Lib.hid hp
      clear hp
      go_wp2_with fail
      have hU2 := HU.out.alloc (.cells #[.pointer (some ⟨B, 0, none⟩), .int .u8 x0] 55)
      refine (do_prog_torn B g n c wv (progZ bs k xs q) ws most false mask (ops + q) p x0 z0 _ (HL.out.upd ((Upd.refl (fun _ => False) wr).alloc _) (fun h => h) (fun _ _ h => h) (fun _ _ h => h)) (by rw [progZ_length]; exact HH.out.1) (by rw [progZ_get _ _ _ _ _ (by have := HH.out; have := HP.out; omega), if_neg (by have := HP.out; omega)]; exact HJ.out.2)).mono ?_
      rintro e w2 ⟨rfl, hF3, hU3⟩
      have hU4 := hU2.trans hU3 (fun i _ h => h)
      have HF3 := Lib.hid (And.intro hF3 hU4)
      clear hU2 hU3 hU4 hF3
      go_wp2_with fail
      go_ret
      rw [HP.out]
      exact ⟨rfl, HF3.out.1, HF3.out.2⟩
end Go.Proofs.Ytibgfeammjliiaa
