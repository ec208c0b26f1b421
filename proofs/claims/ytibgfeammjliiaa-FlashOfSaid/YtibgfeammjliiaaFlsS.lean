/-
  CONTRACT of the references' Of where there is a flash.
-/
import Derived.Test.YtibgfeammjliiaaFlsQ
set_option linter.unusedSimpArgs false
set_option linter.unusedVariables false
namespace Go.Proofs.Ytibgfeammjliiaa
open Go.RowKit
attribute [local go_sem] Oper.semAt_some

set_option maxRecDepth 100000 in
set_option maxHeartbeats 4000000 in
theorem rof_ok (a : Addr) (bs : List Int) (n s c : Nat) (most : Int) (w : World) (hl : bs.length = n) (hs : n = s * 1024) (h1 : 1 ≤ s) (h8 : s ≤ 8) (hm : 1 ≤ most)
    (hnews : ∀ j u, (zv bs)[j]? = some u → w.cell? (a.add j) = some u) :
    Calls Try.prog 23 #[.slice (some a) n c, .int .i64 most] w fun e w' => ∃ R bv wv, e = .returned (.tuple #[.pointer (some ⟨R, 0, none⟩), .bool true]) ∧ RFls w' R bv wv bs (List.replicate s 0) most false (-1) 0 0 ∧ (∀ j, bv.ownBlock = some j → w.heap.size ≤ j) ∧ Below w.heap.size w w' := by
  have e0 : ((n : Int) == 0) = false := beq_eq_false_iff_ne.2 (by omega)
  have d1 : (n : Int) % 1024 = 0 := by omega
  have d2 : (n : Int) ≤ 8192 := by omega
  have e2 : decide ((8192 : Int) < (n : Int)) = false := decide_eq_false (by omega)
  have e3 : decide (most < 1) = false := decide_eq_false (by omega)
  have HL : Hid ((zv bs).length = n * 1) := by show _ = _; rw [Nat.mul_one]; unfold zv; rw [List.length_map]; exact hl
  have HM := Lib.hid (show 0 + n ≤ maxLen ∧ (0 + n) * 1 ≤ 140737488355328 by unfold maxLen; omega)
  have HN : Hid (∀ (W : World), Below w.heap.size w W → ∀ ad, some a = some ad → ∀ j u, (zv bs)[j]? = some u → W.cell? (ad.add j) = some u) := by
    intro W h ad e j u hu
    cases e
    have := hnews j u hu
    exact (h.cell (World.block_lt_of_cell? w _ this)).trans this
  have HS := Lib.hid (And.intro hl (And.intro hs (And.intro h1 h8)))
  have dq : (n : Int) / 1024 = (s : Int) := by omega
  have DQ := Lib.hid dq
  clear hl hs h1 h8 hnews hm dq
  go_enter Try.func23, Try.ntmps23
  have HB0 := Lib.hid (fun X => (Below.refl w.heap.size w).alloc (Nat.le_refl _) X)
  have C5 : Hid (∀ o, w.heap.size ≤ (w.alloc o).heap.size) := by intro o; simp
  have hR0 := Lib.hid (heap_alloc_new w (.cells #[.slice none 0 0, .slice none 0 0, .int .i64 most, .bool false, .int .i64 (-1), .int .u32 0, .int .i64 0] 63))
  go_wp2_with (at_builtin; refine wpList_append_any rfl (.tmp 35) (.tmp 36) 22 rfl w.heap.size 5 (.int .u8 0) 1 1 Try.underlying22 info_sp rfl (by decide) _ _ _ rfl (World.ownsRow_nil _ w.heap.size 5 1) (some a) n c (zv bs) rfl (fun h => by cases h) HL.out (HN.out _ (HB0.out _)) (zv_one bs) HM.out.1 HM.out.2 (C5.out _) ?_)
  intro v1 w1 hown1 hg1
  try simp only [Nat.zero_add, List.nil_append] at hown1
  obtain ⟨g1, cap1, hv1, _, _⟩ := own_shape hown1 (by have := HS.out; omega)
  subst hv1
  have hb1 := (HB0.out _).grown hg1 (C5.out _) (fun k e => by simp [Value.ownBlock] at e)
  have hU1 := (Upd.refl (fun _ => False) _).grown hg1 (fun k e _ => by simp [Value.ownBlock] at e)
  have hR1 := hU1.block_some hR0.out (fun h => h)
  obtain ⟨c0, c1, c2, c3, c4, c5, c6⟩ := cells7 hR1
  have f0 := free_of hR1 0
  have hlt := lt_of_block hR1
  have hne : ∀ j, (Value.slice (some ⟨g1, 0, none⟩) n cap1).ownBlock = some j → j ≠ w.heap.size := fun j hj e => by
    subst e
    exact absurd (lax_type (Lax.of_own hown1) hj hR1) (by decide)
  have hge : ∀ j, (Value.slice (some ⟨g1, 0, none⟩) n cap1).ownBlock = some j → w.heap.size ≤ j := fun j hj => (hown1.lt j hj).1
  have hR2 := hset hR1 0 (.slice (some ⟨g1, 0, none⟩) n cap1)
  have HI : Hid (RFls (w1.setCell ⟨w.heap.size, 0, none⟩ (.slice (some ⟨g1, 0, none⟩) n cap1)) w.heap.size (.slice (some ⟨g1, 0, none⟩) n cap1) (.slice none 0 0) bs [] most false (-1) 0 0 ∧ Below w.heap.size w (w1.setCell ⟨w.heap.size, 0, none⟩ (.slice (some ⟨g1, 0, none⟩) n cap1))) := by
    refine ⟨⟨hR2, ?_, Lax.nil0 _ _ _⟩, hb1.setCell (Nat.le_refl _) _⟩
    have := (Lax.of_own hown1).upd ((Upd.refl (· = w.heap.size) w1).setCell (p := ⟨w.heap.size, 0, none⟩) (fun _ => rfl) (.slice (some ⟨g1, 0, none⟩) n cap1)) hne
    rw [HS.out.1]
    exact this
  have HG1 := Lib.hid (And.intro hne hge)
  clear hown1 hg1 hb1 hU1 hR1 hR0 hlt hne hge hR2
  go_wp2_with fail
  go_loopg [7] s (fun gg i wr => ∃ k : Nat, k ≤ s ∧ gg = s - k ∧ i = .int .i64 (k : Int) ∧ Below w.heap.size w wr ∧ ∃ wv, RFls wr w.heap.size (.slice (some ⟨g1, 0, none⟩) n cap1) wv bs (List.replicate k 0) most false (-1) 0 0 ∧ (∀ j, wv.ownBlock = some j → w.heap.size ≤ j))
  case atStart => exact ⟨0, by omega, by omega, rfl, HI.out.2, _, HI.out.1, fun j hj => by cases hj⟩
  case round =>
    obtain ⟨k, hk, hgk, rfl, hB, wv, hF, hw⟩ := hrel
    have HG := Lib.hid hgk
    have HB := Lib.hid hB
    have HF := Lib.hid hF
    have HW := Lib.hid hw
    clear HI hgk hB hF hw
    have dq := DQ.out
    by_cases hks : k < s
    · have dk : (k : Int) < (s : Int) := by omega
      obtain ⟨c0, c1, c2, c3, c4, c5, c6⟩ := cells7 HF.out.1
      have HLW : Hid (∀ o, Lax (wr.alloc o) 3 1 wv k (iv (List.replicate k 0))) := fun o => by
        have := HF.out.2.2.upd ((Upd.refl (fun _ => False) wr).alloc o) (fun _ _ h => h)
        rw [List.length_replicate] at this
        exact this
      have C1 : Hid (∀ j u, ([.int .i64 0] : List Value)[j]? = some u → (wr.alloc (.cells #[.int .i64 0] 3)).cell? ((⟨wr.heap.size, 0, none⟩ : Addr).add j) = some u) := by
        intro i u hu
        rw [Addr.add_lit, Nat.zero_add]
        match i, hu with
        | 0, hu => simp at hu; subst hu; exact cells1 (heap_alloc_new _ _)
      have C2 : Hid (∀ u ∈ ([.int .i64 0] : List Value), u.oneCell' = true) := by intro u hu; simp at hu; subst hu; rfl
      have HM2 := Lib.hid (show k + 1 ≤ maxLen ∧ (k + 1) * 8 ≤ 140737488355328 by have := HS.out; unfold maxLen; omega)
      clear dq
      have dq := DQ.out
      go_wp2_with (at_builtin; refine wpList_append_lax rfl (.tmp 51) (.tmp 52) 58 rfl 3 (.int .i64 0) 1 8 Try.underlying58 info_i64 rfl (by decide) _ _ _ rfl (HLW.out _) ⟨wr.heap.size, 0, none⟩ 1 1 [.int .i64 0] rfl (by simp) C1.out C2.out (by decide) HM2.out.1 HM2.out.2 ?_)
      intro g' cap' w2 hown2 hg2 hor
      have hU2 : Upd (fun i => wv.ownBlock = some i) wr w2 := ((Upd.refl _ wr).alloc _).grown hg2 (fun i e _ => e)
      have hne2 : ∀ j, wv.ownBlock = some j → j ≠ w.heap.size := fun j hj e => by
        subst e
        exact absurd (lax_type HF.out.2.2 hj HF.out.1) (by decide)
      have hne3 : ∀ j, (Value.slice (some ⟨g1, 0, none⟩) n cap1).ownBlock = some j → wv.ownBlock ≠ some j := fun j hj e => by
        obtain ⟨_, cur, hc⟩ := HF.out.2.1.lt j hj
        exact absurd (lax_type HF.out.2.2 e hc) (by decide)
      have hR2 := hU2.block_some HF.out.1 (fun e => hne2 _ e rfl)
      obtain ⟨k0, k1, k2, k3, k4, k5, k6⟩ := cells7 hR2
      have f1 := free_of hR2 1
      have hge2 : w.heap.size ≤ g' := by
        rcases hor with e | e
        · exact HW.out _ e
        · have h2 : wr.heap.size ≤ g' := by rw [e]; simp
          have := HB.out.size
          omega
      have hneg : g' ≠ w.heap.size := fun e => by
        have h4 := (hown2.lt g' rfl).2
        obtain ⟨cur, hc⟩ := h4
        rw [e, hR2] at hc
        injection hc with hc
        injection hc with _ e2
        exact absurd e2 (by decide)
      have HR3 : Hid (RFls (w2.setCell ⟨w.heap.size, 1, none⟩ (.slice (some ⟨g', 0, none⟩) (k + 1) cap')) w.heap.size (.slice (some ⟨g1, 0, none⟩) n cap1) (.slice (some ⟨g', 0, none⟩) (k + 1) cap') bs (List.replicate (k + 1) 0) most false (-1) 0 0) := by
        have hS := (Upd.refl (· = w.heap.size) w2).setCell (p := ⟨w.heap.size, 1, none⟩) (fun _ => rfl) (.slice (some ⟨g', 0, none⟩) (k + 1) cap')
        refine ⟨hset hR2 1 _, (HF.out.2.1.upd hU2 hne3).upd hS (fun j hj => HG1.out.1 j hj), ?_⟩
        have e : iv (List.replicate (k + 1) 0) = iv (List.replicate k 0) ++ [.int .i64 0] := by rw [iv_rep, iv_rep, List.replicate_succ']
        rw [List.length_replicate, e]
        exact hown2.upd hS (fun j hj => by cases hj; exact hneg)
      have HB3 := Lib.hid ((belowU (HB.out.alloc HB.out.size (.cells #[.int .i64 0] 3)) ((Upd.refl (fun i => wv.ownBlock = some i) _).grown hg2 (fun i e _ => e)) (fun i e => HW.out i e) (Nat.le_refl _)).setCell (p := ⟨w.heap.size, 1, none⟩) (Nat.le_refl _) (.slice (some ⟨g', 0, none⟩) (k + 1) cap'))
      have HGE := Lib.hid hge2
      clear hown2 hg2 hor hU2 hne2 hne3 hR2 hge2 hneg c0 c1 c2 c3 c4 c5 c6
      go_wp2_with fail
      go_roundg (s - (k + 1))
      case measure => have := HG.out; omega
      case rel => exact ⟨k + 1, by omega, rfl, by go_num, HB3.out, _, HR3.out, fun j hj => by cases hj; exact HGE.out⟩
    · obtain rfl : k = s := by omega
      clear hks
      go_wp2_with fail
      go_ret2
      exact ⟨_, (.slice (some ⟨g1, 0, none⟩) n cap1), wv, rfl, HF.out, HG1.out.2, HB.out⟩
end Go.Proofs.Ytibgfeammjliiaa
