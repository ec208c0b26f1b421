/-
  CONTRACTS of the references' Same (frames; histories), All, Spoil.
-/
import Derived.Test.YtlhbgikgaoeciaaEmcT
import Derived.Deep.RegionHeld3
set_option linter.unusedSimpArgs false
set_option linter.unusedVariables false
namespace Go.Proofs.Ytlhbgikgaoeciaa
open Go.RowKit
attribute [local go_sem] Oper.semAt_some

theorem byte_of {z : Int} (h : 0 ≤ z ∧ z < 256) : ∃ u : UInt8, z = (u.toNat : Int) := ⟨UInt8.ofNat z.toNat, by rw [UInt8.toNat_ofNat', Nat.mod_eq_of_lt (by omega)]; omega⟩
theorem emB_bytes (x : Nat) (r i : Int) (hx : x < 65536) : ∃ l : List UInt8, l.length = 8 ∧ emB x r i = l.map (fun u => Value.int .u8 (u.toNat : Int)) := by
  obtain ⟨a, ha⟩ := byte_of (z := (x : Int) % 256) (by omega)
  obtain ⟨b, hb⟩ := byte_of (z := (x : Int) / 256) (by omega)
  obtain ⟨c, hc⟩ := byte_of (z := r % 256) (by omega)
  obtain ⟨d, hd⟩ := byte_of (z := i % 256) (by omega)
  refine ⟨[a, b, c, d, 0, 0, 0, 0], rfl, ?_⟩
  unfold emB
  rw [ha, hb, hc, hd]
  rfl
theorem EmF.cells {w : World} {lo g : Nat} {id x r i : Int} (h : EmF w lo g id x r i) : ∃ d c, (w.cell? ⟨g, 0, none⟩ = some (.int .i64 id) ∧ w.cell? ⟨g, 1, none⟩ = some (.bool false) ∧ w.cell? ⟨g, 2, none⟩ = some (.slice (some ⟨d, 0, none⟩) 8 c)) ∧ lo ≤ d ∧ Lax w 5 1 (.slice (some ⟨d, 0, none⟩) 8 c) 8 (emB x r i) := by
  obtain ⟨d, c, h1, h2, h3⟩ := h
  exact ⟨d, c, cells3' h1, h2, h3⟩

set_option maxRecDepth 100000 in
theorem same_em (id : Int) (l : List UInt8) (xs : List Value) (d1 c1 d2 c2 : Nat) (w : World) (hl : l.length = 8) (hxs : xs = l.map (fun u => Value.int .u8 (u.toNat : Int))) (h1 : Lax w 5 1 (.slice (some ⟨d1, 0, none⟩) 8 c1) 8 xs) (h2 : Lax w 5 1 (.slice (some ⟨d2, 0, none⟩) 8 c2) 8 xs) :
    Calls Try.prog 29 #[.agg #[.int .i64 id, .bool false, .slice (some ⟨d1, 0, none⟩) 8 c1], .agg #[.int .i64 id, .bool false, .slice (some ⟨d2, 0, none⟩) 8 c2]] w fun e w' => e = .returned (.bool true) ∧ Below w.heap.size w w' := by
  have key : ∀ (d c : Nat) (W : World), Lax W 5 1 (.slice (some ⟨d, 0, none⟩) 8 c) 8 xs → (convert 47 9 (.slice (some ⟨d, 0, none⟩) 8 c)).run Try.prog W = .ok (.string ⟨l.toArray⟩) W := by
    intro d c W h
    have := string27 (w := W) (x := ⟨d, 0, none⟩) (cap := c) (l := l) (fun j hj => by
      rw [Addr.add_lit, Nat.zero_add]
      apply h.cell
      rw [hxs, List.getElem?_map, List.getElem?_eq_getElem hj]
      rfl)
    rw [hl] at this
    exact this
  have S1 := fun o o2 => key d1 c1 _ ((h1.upd ((Upd.refl (fun _ => False) w).alloc o) (fun _ _ h => h)).upd ((Upd.refl (fun _ => False) _).alloc o2) (fun _ _ h => h))
  have S2 := fun o o2 => key d2 c2 _ ((h2.upd ((Upd.refl (fun _ => False) w).alloc o) (fun _ _ h => h)).upd ((Upd.refl (fun _ => False) _).alloc o2) (fun _ _ h => h))
  clear h1 h2 key hxs hl
  go_enter Try.func29, Try.ntmps29
  go_wp2_with fail
  go_ret
  exact ⟨rfl, by go_grown⟩

set_option maxRecDepth 100000 in
theorem all_nil (w : World) : Calls Try.prog 18 #[.slice none 0 0, .slice none 0 0] w fun e w' => e = .returned (.bool true) ∧ w = w' := by
  go_enter Try.func18, Try.ntmps18
  go_wp2_with fail
  go_loopg [5] 0 (fun gg i wr => i = .int .i64 0 ∧ wr = w)
  case atStart => exact ⟨rfl, rfl⟩
  case round =>
    obtain ⟨rfl, hw⟩ := hrel
    subst hw
    go_wp2_with fail
    go_ret
    exact ⟨rfl, rfl⟩

set_option maxRecDepth 100000 in
set_option maxHeartbeats 4000000 in
theorem all_one (id : Int) (x : Nat) (r i : Int) (hx : x < 65536) (lo1 lo2 g1 g2 c1 c2 : Nat) (w : World) (h1 : EmF w lo1 g1 id x r i) (h2 : EmF w lo2 g2 id x r i) :
    Calls Try.prog 18 #[.slice (some ⟨g1, 0, none⟩) 1 c1, .slice (some ⟨g2, 0, none⟩) 1 c2] w fun e w' => e = .returned (.bool true) ∧ Below w.heap.size w w' := by
  obtain ⟨d1, dc1, ⟨p0, p1, p2⟩, _, hL1⟩ := h1.cells
  obtain ⟨d2, dc2, ⟨q0, q1, q2⟩, _, hL2⟩ := h2.cells
  obtain ⟨l, hl, he⟩ := emB_bytes x r i hx
  have H1 := Lib.hid hL1
  have H2 := Lib.hid hL2
  have HE := Lib.hid (And.intro hl he)
  generalize emB x r i = xs at *
  clear h1 h2 hL1 hL2 hl he
  go_enter Try.func18, Try.ntmps18
  go_wp2_with fail
  go_loopg [5] 1 (fun gg i wr => ∃ k : Nat, k ≤ 1 ∧ gg = 1 - k ∧ i = .int .i64 k ∧ Below w.heap.size w wr)
  case atStart => exact ⟨0, by omega, by omega, rfl, Below.refl _ _⟩
  case round =>
    obtain ⟨k, hk, hg, rfl, hB⟩ := hrel
    have HB := Lib.hid hB
    have HG := Lib.hid hg
    by_cases hk1 : k = 0
    · subst hk1
      have r0 : wr.cell? ⟨g1, 0, none⟩ = some (.int .i64 id) := (hB.cell (World.block_lt_of_cell? w _ p0)).trans p0
      have r1 : wr.cell? ⟨g1, 1, none⟩ = some (.bool false) := (hB.cell (World.block_lt_of_cell? w _ p1)).trans p1
      have r2 : wr.cell? ⟨g1, 2, none⟩ = some (.slice (some ⟨d1, 0, none⟩) 8 dc1) := (hB.cell (World.block_lt_of_cell? w _ p2)).trans p2
      have s0 : wr.cell? ⟨g2, 0, none⟩ = some (.int .i64 id) := (hB.cell (World.block_lt_of_cell? w _ q0)).trans q0
      have s1 : wr.cell? ⟨g2, 1, none⟩ = some (.bool false) := (hB.cell (World.block_lt_of_cell? w _ q1)).trans q1
      have s2 : wr.cell? ⟨g2, 2, none⟩ = some (.slice (some ⟨d2, 0, none⟩) 8 dc2) := (hB.cell (World.block_lt_of_cell? w _ q2)).trans q2
      have SM := Lib.hid (same_em id l xs d1 dc1 d2 dc2 wr.drew HE.out.1 HE.out.2 ((H1.out.below hB).upd ((Upd.refl (fun _ => False) wr).drew) (fun _ _ h => h)) ((H2.out.below hB).upd ((Upd.refl (fun _ => False) wr).drew) (fun _ _ h => h)))
      clear hB p0 p1 p2 q0 q1 q2 hg
      go_wp2_with fail
      go_region_held3 (fun w' => w'.cell? ⟨g1, 0, none⟩ = some (.int .i64 id) ∧ w'.cell? ⟨g1, 1, none⟩ = some (.bool false) ∧ w'.cell? ⟨g1, 2, none⟩ = some (.slice (some ⟨d1, 0, none⟩) 8 dc1) ∧ w'.cell? ⟨g2, 0, none⟩ = some (.int .i64 id) ∧ w'.cell? ⟨g2, 1, none⟩ = some (.bool false) ∧ w'.cell? ⟨g2, 2, none⟩ = some (.slice (some ⟨d2, 0, none⟩) 8 dc2))
        (first | go_keep | (go_split_ands; exact ⟨(hb2.cell (World.block_lt_of_cell? wr _ r0)).trans r0, (hb2.cell (World.block_lt_of_cell? wr _ r1)).trans r1, (hb2.cell (World.block_lt_of_cell? wr _ r2)).trans r2, (hb2.cell (World.block_lt_of_cell? wr _ s0)).trans s0, (hb2.cell (World.block_lt_of_cell? wr _ s1)).trans s1, (hb2.cell (World.block_lt_of_cell? wr _ s2)).trans s2⟩))
        (first | (go_at_call 29; refine SM.out.mono ?_; rintro e w2 ⟨rfl, hb2⟩))
      have HB2 := Lib.hid (bstep (B := w.heap.size) (w := w) hb2 HB.out.drew (Nat.le_refl _))
      clear hb2
      go_wp2_with fail
      go_roundg (1 - (0 + 1))
      case measure => have := HG.out; omega
      case rel => exact ⟨0 + 1, by omega, rfl, by go_num, HB2.out⟩
    · obtain rfl : k = 1 := by omega
      go_wp2_with fail
      go_ret
      exact ⟨rfl, HB.out⟩

set_option maxRecDepth 100000 in
set_option maxHeartbeats 2000000 in
theorem hists_any (hs : List Int) (v1 v2 : Value) (w : World) (h1 : Lax w 45 1 v1 hs.length (uv hs)) (h2 : Lax w 45 1 v2 hs.length (uv hs)) (hl : hs.length ≤ 4) :
    Calls Try.prog 20 #[v1, v2] w fun e w' => e = .returned (.bool true) ∧ ∃ m, w' = w.drewN m := by
  obtain ⟨a1, c1, rfl, _, hc1, hm1⟩ := h1.shape
  obtain ⟨a2, c2, rfl, _, hc2, hm2⟩ := h2.shape
  have H1 := Lib.hid h1
  have H2 := Lib.hid h2
  clear h1 h2
  go_enter Try.func20, Try.ntmps20
  go_wp2_with fail
  go_loopg [5] hs.length (fun gg i wr => ∃ k : Nat, k ≤ hs.length ∧ gg = hs.length - k ∧ i = .int .i64 k ∧ ∃ nd, wr = w.drewN nd)
  case atStart => exact ⟨0, by omega, by omega, rfl, 0, rfl⟩
  case round =>
    obtain ⟨k, hk, hgk, rfl, nd, rfl⟩ := hrel
    have HG := Lib.hid hgk
    clear hgk
    by_cases hkl : k < hs.length
    · have d1 : (k : Int) < (hs.length : Int) := by omega
      obtain ⟨g1, rfl⟩ := H1.out.at0 (by omega)
      obtain ⟨g2, rfl⟩ := H2.out.at0 (by omega)
      obtain ⟨y, hy⟩ : ∃ y, hs[k]? = some y := ⟨_, List.getElem?_eq_getElem hkl⟩
      have q1 := H1.out.cell (j := k) (u := .int .u32 y) (by unfold uv; rw [List.getElem?_map, hy]; rfl)
      have q2 := H2.out.cell (j := k) (u := .int .u32 y) (by unfold uv; rw [List.getElem?_map, hy]; rfl)
      clear hy
      go_wp2_with fail
      go_quiet (fail)
      go_wp2_with fail
      go_roundg (hs.length - (k + 1))
      case measure => have := HG.out; omega
      case rel => exact ⟨k + 1, by omega, rfl, by go_num, _, rfl⟩
    · obtain rfl : k = hs.length := by omega
      go_wp2_with fail
      go_ret
      exact ⟨rfl, _, rfl⟩
end Go.Proofs.Ytlhbgikgaoeciaa
