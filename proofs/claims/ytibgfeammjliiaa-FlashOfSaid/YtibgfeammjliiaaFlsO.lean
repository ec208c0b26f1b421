/-
  CONTRACTS of Lent and Spoil (only the row's own block turns), and of the references' Of.
-/
import Derived.Test.YtibgfeammjliiaaFlsX
set_option linter.unusedSimpArgs false
set_option linter.unusedVariables false
namespace Go.Proofs.Ytibgfeammjliiaa
open Go.RowKit
attribute [local go_sem] Oper.semAt_some

theorem maxLen_eq : maxLen = 9223372036854775807 ∨ True := .inr trivial

set_option maxRecDepth 100000 in
set_option maxHeartbeats 2000000 in
theorem spoil_upd (zs : List Int) (g n cap : Nat) (w : World) (hn : zs.length = n) (hl : n ≤ 1000000) (h : Lax w 5 1 (.slice (some ⟨g, 0, none⟩) n cap) n (zv zs)) :
    Calls Try.prog 24 #[.slice (some ⟨g, 0, none⟩) n cap] w fun e w' => e = .returned (.tuple #[]) ∧ Upd (fun i => i = g) w w' := by
  have HO := Lib.hid h
  have HN := Lib.hid hn
  have hnc : n ≤ cap := by
    obtain ⟨_, _, es, _, hac, _⟩ := h.shape
    injection es with _ _ ec
    omega
  have hcm : cap ≤ maxLen := by
    obtain ⟨_, _, es, _, _, hcm⟩ := h.shape
    injection es with _ _ ec
    omega
  have HC := Lib.hid hcm
  clear h hn hcm
  go_enter Try.func24, Try.ntmps24
  go_wp2_with fail
  go_loopg [2] n (fun gg i wr => ∃ k : Nat, k ≤ n ∧ gg = n - k ∧ i = .int .i64 k ∧ Upd (fun i => i = g) w wr ∧ ∃ ys, Lax wr 5 1 (.slice (some ⟨g, 0, none⟩) n cap) n (zv ys) ∧ ys.length = n)
  case atStart => exact ⟨0, by omega, by omega, rfl, Upd.refl _ _, zs, HO.out, HN.out⟩
  case round =>
    obtain ⟨k, hk, hgk, rfl, hB, ys, hown, hy⟩ := hrel
    have HG := Lib.hid hgk
    have HB := Lib.hid hB
    have HO := Lib.hid hown
    have HY := Lib.hid hy
    clear hgk hB hown
    by_cases hkn : k < n
    · have d1 : (k : Int) < (n : Int) := by omega
      obtain ⟨z, hz⟩ : ∃ z, ys[k]? = some z := ⟨_, List.getElem?_eq_getElem (by omega)⟩
      have hc := HO.out.cell (j := k) (u := .int .u8 z) (by simp [zv, hz])
      obtain ⟨hf, _⟩ := HO.out.free k
      clear hz hy
      go_wp2_with fail
      go_roundg (n - (k + 1))
      case measure => have := HG.out; omega
      case rel =>
        refine ⟨k + 1, by omega, rfl, by go_num, HB.out.setCell (p := ⟨g, k, none⟩) (fun _ => rfl) _, ys.set k (bits .xor .u8 z 90), ?_, by rw [List.length_set]; exact HY.out⟩
        rw [← zv_set]
        exact HO.out.stored k hkn _
    · obtain rfl : k = n := by omega
      clear hy
      have HOA := Lib.hid (fun o => HO.out.upd ((Upd.refl (fun _ => False) wr).alloc o) (fun _ _ h => h))
      have HM := Lib.hid (show k + 1 ≤ maxLen ∧ (k + 1) * 1 ≤ 140737488355328 by unfold maxLen; omega)
      have C1 : Hid (∀ j u, ([.int .u8 99] : List Value)[j]? = some u → (wr.alloc (.cells #[.int .u8 99] 5)).cell? ((⟨wr.heap.size, 0, none⟩ : Addr).add j) = some u) := by
        intro i u hu
        rw [Addr.add_lit, Nat.zero_add]
        match i, hu with
        | 0, hu => simp at hu; subst hu; exact cells1 (heap_alloc_new _ _)
      have C2 : Hid (∀ u ∈ ([.int .u8 99] : List Value), u.oneCell' = true) := by intro u hu; simp at hu; subst hu; rfl
      go_wp2_with (at_builtin; refine wpList_append_lax rfl (.tmp 17) (.tmp 18) 22 rfl 5 (.int .u8 0) 1 1 Try.underlying22 info_sp rfl (by decide) _ _ _ rfl (HOA.out _) ⟨wr.heap.size, 0, none⟩ 1 1 [.int .u8 99] rfl (by simp) C1.out C2.out (by decide) HM.out.1 HM.out.2 ?_)
      intro g' cap' w1 hown' hg hor
      have hU : Upd (fun i => i = g) w w1 := (HB.out.alloc _).grown hg (fun i e _ => by cases e; rfl)
      have hor2 : g' < w.heap.size → g' = g := fun h => by
        rcases hor with e | e
        · cases e; rfl
        · have := HB.out.size; have h2 : wr.heap.size ≤ g' := by rw [e]; simp
          omega
      have hyk : (zv ys).length = k := by simp [zv]; exact HY.out
      have hc : w1.cell? ⟨g', k, none⟩ = some (.int .u8 99) := by
        refine hown'.cell ?_
        rw [List.getElem?_append_right (by omega), hyk, Nat.sub_self]; rfl
      obtain ⟨hf, _⟩ := hown'.free k
      have HU := Lib.hid hU
      have HR := Lib.hid hor2
      have hkk : (k : Int) + 1 - 1 = (k : Int) := by omega
      clear hU hg hown' hyk hor hor2
      go_wp2_with fail
      go_end0
      exact ⟨rfl, HU.out.setCell (p := ⟨g', k, none⟩) HR.out _⟩

theorem own_less {w : World} {base g n m cap : Nat} {xs : List Value} (h : w.ownsRow base 5 1 (.slice (some ⟨g, 0, none⟩) m cap) m xs) (hn : n ≤ m) : Lax w 5 1 (.slice (some ⟨g, 0, none⟩) n cap) n (xs.take n) := by
  have hl := (Lax.of_own h).1
  refine ⟨by rw [List.length_take]; omega, ?_⟩
  rcases (Lax.of_own h).2 with ⟨e, _⟩ | ⟨g', cap', cur, e, hg, h1, h2, h3, h4⟩
  · cases e
  · cases e
    refine .inr ⟨g, cap, cur, rfl, hg, by omega, h2, h3, ?_⟩
    rw [← h4, List.take_take]
    congr 1
    omega

set_option maxRecDepth 100000 in
set_option maxHeartbeats 2000000 in
theorem lent_own (a : Option Addr) (n c : Nat) (bs : List Int) (w : World) (hl : bs.length = n) (hn : n ≤ 1000000) (hnil : a = none → n = 0 ∧ c = 0) (hnews : ∀ ad, a = some ad → ∀ j u, (zv bs)[j]? = some u → w.cell? (ad.add j) = some u) :
    Calls Try.prog 21 #[.slice a n c] w fun e w' => ∃ g cap, e = .returned (.slice (some ⟨g, 0, none⟩) n cap) ∧ w.heap.size ≤ g ∧ Lax w' 5 1 (.slice (some ⟨g, 0, none⟩) n cap) n (zv bs) ∧ Below w.heap.size w w' := by
  have H1 := Lib.hid hnil
  have H2 := Lib.hid hnews
  have HL : Hid ((zv bs).length = n * 1) := by show _ = _; rw [Nat.mul_one]; unfold zv; rw [List.length_map]; exact hl
  have HM := Lib.hid (show (0 + n ≤ maxLen ∧ (0 + n) * 1 ≤ 140737488355328) ∧ (n + 1 ≤ maxLen ∧ (n + 1) * 1 ≤ 140737488355328) by unfold maxLen; omega)
  clear hnil hnews hl
  go_enter Try.func21, Try.ntmps21
  go_wp2_with (at_builtin; refine wpList_append_any rfl (.tmp 4) (.tmp 5) 22 rfl w.heap.size 5 (.int .u8 0) 1 1 Try.underlying22 info_sp rfl (by decide) _ _ _ rfl (World.ownsRow_nil w w.heap.size 5 1) a n c (zv bs) rfl H1.out HL.out H2.out (zv_one bs) HM.out.1.1 HM.out.1.2 (Nat.le_refl _) ?_)
  intro v1 w1 hown1 hg1
  try simp only [Nat.zero_add, List.nil_append] at hown1
  have hb1 := (Below.refl w.heap.size w).grown hg1 (Nat.le_refl _) (fun k e => by simp [Value.ownBlock] at e)
  have hsz := hb1.size
  have HO1 := Lib.hid (fun o => hown1.alloc o)
  have HLT := Lib.hid (fun k e => (hown1.lt k e).1)
  have HB1 := Lib.hid (hb1.alloc hsz (.cells #[.int .u8 77] 5))
  have C1 : Hid (∀ ad, some (⟨w1.heap.size, 0, none⟩ : Addr) = some ad → ∀ j u, ([.int .u8 77] : List Value)[j]? = some u → (w1.alloc (.cells #[.int .u8 77] 5)).cell? (ad.add j) = some u) := by
    intro ad e i u hu
    cases e
    rw [Addr.add_lit, Nat.zero_add]
    match i, hu with
    | 0, hu => simp at hu; subst hu; exact cells1 (heap_alloc_new _ _)
  have C2 : Hid (∀ u ∈ ([.int .u8 77] : List Value), u.oneCell' = true) := by intro u hu; simp at hu; subst hu; rfl
  have C5 : Hid (∀ o, w.heap.size ≤ (w1.alloc o).heap.size) := by intro o; simp; omega
  clear hown1 hg1 hb1
  go_wp2_with (at_builtin; refine wpList_append_any rfl (.tmp 7) (.tmp 8) 22 rfl w.heap.size 5 (.int .u8 0) 1 1 Try.underlying22 info_sp rfl (by decide) _ _ _ rfl (HO1.out _) (some ⟨w1.heap.size, 0, none⟩) 1 1 [.int .u8 77] rfl (fun h => by cases h) (by simp) C1.out C2.out HM.out.2.1 HM.out.2.2 (C5.out _) ?_)
  intro v2 w2 hown2 hg2
  obtain ⟨g, cap, rfl, hg0, hg3⟩ := own_shape hown2 (by omega)
  have hcap := own_cap hown2
  have hb2 := HB1.out.grown hg2 (C5.out _) (fun k e => HLT.out k e)
  have hlx := own_less hown2 (n := n) (by omega)
  have e : (zv bs ++ [Value.int .u8 77]).take n = zv bs := by
    have := HL.out
    rw [List.take_append_of_le_length (by omega), List.take_of_length_le (by omega)]
  rw [e] at hlx
  have HX := Lib.hid (And.intro hlx hb2)
  have hc1 : (n : Int) ≤ (cap : Int) := by omega
  clear hown2 hg2 hb2 hlx e
  go_wp2_with fail
  go_ret
  exact ⟨g, cap, rfl, hg0, HX.out.1, HX.out.2⟩
end Go.Proofs.Ytibgfeammjliiaa
