/-
  LAW FlashOf: the walk.
-/
import Derived.Test.YtibgfeammjliiaaFlsY
set_option linter.unusedSimpArgs false
set_option linter.unusedVariables false
namespace Go.Proofs.Ytibgfeammjliiaa
open Go.RowKit
attribute [local go_sem] Oper.semAt_some

theorem zv_news {w : World} {a : Option Addr} {l : List UInt8} (h : Bytes w a l) : ∀ ad, a = some ad → ∀ j u, (zv (bytesI l))[j]? = some u → w.cell? (ad.add j) = some u := by
  intro ad ha j u hu
  subst ha
  unfold zv bytesI at hu
  rw [List.getElem?_map, List.getElem?_map] at hu
  rcases h with rfl | ⟨b, o, e, hc⟩
  · simp at hu
  · cases e
    by_cases hj : j < l.length
    · rw [List.getElem?_eq_getElem hj] at hu
      cases hu
      rw [Addr.add_lit]
      exact hc j hj
    · rw [List.getElem?_eq_none (by omega)] at hu
      cases hu

set_option maxRecDepth 100000 in
set_option maxHeartbeats 4000000 in
theorem of_said (a : Option Addr) (n c : Nat) (l : List UInt8) (most : Int) (w : World) (hl : l.length = n) (hb : Bytes w a l) (hnil : a = none → n = 0 ∧ c = 0) (hm : most ≤ 9223372036854775807) (hn : (n : Int) ≤ 9223372036854775807) :
    Calls Try.prog 6 #[.slice a n c, .int .i64 most] w fun e w' => e = .returned (.bool true) ∧ Below w.heap.size w w' := by
  by_cases h2 : n ≤ 20000
  · have d1 : decide ((20000 : Int) < (n : Int)) = false := decide_eq_false (by omega)
    have HLN := Lib.hid (lent_own a n c (bytesI l) w (by rw [bytesI_length]; exact hl) (by omega) hnil (zv_news hb))
    have HL := Lib.hid (And.intro hl (And.intro hb hnil))
    by_cases hV : 1 ≤ n / 1024 ∧ n / 1024 ≤ 8 ∧ n % 1024 = 0 ∧ 1 ≤ most
    · obtain ⟨s, hs⟩ : ∃ s, n / 1024 = s := ⟨_, rfl⟩
      rw [hs] at hV
      obtain ⟨v1, v2, v3, v4⟩ := hV
      obtain ⟨b, o, rfl, hcb⟩ := hb.resolve_left (fun e => by rw [e] at hl; simp at hl; omega)
      have HS := Lib.hid (show n = s * 1024 ∧ 1 ≤ s ∧ s ≤ 8 from ⟨by omega, v1, v2⟩)
      clear hl hb hnil hs v1 v2 v3 hcb
      go_enter Try.func6, Try.ntmps6
      go_wp2_with fail
      (with_reducible refine HLN.out.mono ?_)
      rintro e w1 ⟨g, cap, rfl, hg, hLx, hb1⟩
      have HG := Lib.hid hg
      have HLX := Lib.hid hLx
      have HB1 := Lib.hid hb1
      have hof := of_ok ⟨g, 0, none⟩ (bytesI l) s cap most w1 (by rw [bytesI_length, HL.out.1]; exact HS.out.1) HS.out.2.1 HS.out.2.2 v4 (fun j u hu => hLx.news _ rfl j u hu)
      rw [bytesI_length, HL.out.1] at hof
      have HOF := Lib.hid hof
      clear hg hLx hb1 HLN hof
      go_wp2_with fail
      (with_reducible refine HOF.out.mono ?_)
      rintro e w2 ⟨B, bv, wv, rfl, hF, hB, hbv, hwv, hb2⟩
      obtain ⟨bg, bc, wg, wc, rfl, rfl⟩ := hF.shape (by rw [bytesI_length, HL.out.1]; have := HS.out; omega) (by rw [List.length_replicate]; have := HS.out; omega)
      rw [bytesI_length, HL.out.1] at hF
      have HF2 := Lib.hid hF
      have HNF := Lib.hid (And.intro hB (And.intro (hbv bg rfl) (hwv wg rfl)))
      have HB2 := Lib.hid (belowU HB1.out (Upd.ofBelow' (S := fun _ => False) hb2) (fun _ h => h.elim) (Nat.le_refl _))
      have HLX2 := Lib.hid (HLX.out.below hb2)
      have hGL := (HLX.out.lt g rfl).1
      have HGL := Lib.hid hGL
      have hrof := rof_ok ⟨b, o, none⟩ (bytesI l) n s c most w2 (by rw [bytesI_length]; exact HL.out.1) HS.out.1 HS.out.2.1 HS.out.2.2 v4 (fun j u hu => by
        have := zv_news HL.out.2.1 _ rfl j u hu
        exact (HB2.out.cell (World.block_lt_of_cell? w _ this)).trans this)
      have HROF := Lib.hid hrof
      clear hF hB hbv hwv hb2 HOF HB1 HLX hrof hGL
      go_wp2_with fail
      (with_reducible refine HROF.out.mono ?_)
      rintro e w3 ⟨R, rbv, rwv, rfl, hR, hrb, hb3⟩
      obtain ⟨rg, rc, rfl⟩ : ∃ rg rc, rbv = .slice (some ⟨rg, 0, none⟩) n rc := by
        have hx := hR.2.1
        rw [bytesI_length, HL.out.1] at hx
        obtain ⟨ra, rc, e, _⟩ := hx.shape
        subst e
        obtain ⟨rg, e⟩ := hx.at0 (by have := HS.out; omega)
        exact ⟨rg, rc, by rw [e]⟩
      have HR3 := Lib.hid hR
      have HNR := Lib.hid (hrb rg rfl)
      have HF3 := Lib.hid (HF2.out.below hb3)
      have HB3 := Lib.hid (belowU HB2.out (Upd.ofBelow' (S := fun _ => False) hb3) (fun _ h => h.elim) (Nat.le_refl _))
      have HLX3 := Lib.hid (HLX2.out.below hb3)
      have HS2 := Lib.hid (HF2.out.lts)
      clear hR hrb hb3 HROF HF2 HB2 HLX2
      go_wp2_with fail
      refine (spoil_upd (bytesI l) g n cap w3 (by rw [bytesI_length]; exact HL.out.1) (by omega) HLX3.out).mono ?_
      rintro e w4 ⟨rfl, hU4⟩
      have HF4 : Hid (Fls w4 B (.slice (some ⟨bg, 0, none⟩) n bc) (.slice (some ⟨wg, 0, none⟩) (List.replicate s (0 : Int)).length wc) (bytesI l) (List.replicate s 0) most false (-1) 0 0) := by
        have e1 := HNF.out
        have e2 := HGL.out
        exact HF3.out.upd hU4 (by omega) (fun j hj e => by have e3 : bg = j := Option.some.inj hj; omega) (fun j hj e => by have e3 : wg = j := Option.some.inj hj; omega)
      have HR4 : Hid (RFls w4 R (.slice (some ⟨rg, 0, none⟩) n rc) rwv (bytesI l) (List.replicate s 0) most false (-1) 0 0) := by
        have e1 := HNR.out
        have e2 := HGL.out
        have e3 := (HLX3.out.lt g rfl).2
        have e4 := HS2.out
        have e5 := HNF.out
        refine HR3.out.upd hU4 (fun e => ?_) (fun j hj e => by have e3 : rg = j := Option.some.inj hj; omega) (fun j hj e => ?_)
        · obtain ⟨cur, hc⟩ := e3
          rw [← e, HR3.out.1] at hc
          injection hc with hc
          injection hc with _ e2
          exact absurd e2 (by decide)
        · obtain ⟨cur, hc⟩ := e3
          rw [← e] at hc
          exact absurd (lax_type HR3.out.2.2 hj hc) (by decide)
      have HB4 := Lib.hid (belowU HB3.out hU4 (fun i e => by rw [e]; exact HG.out) (Nat.le_refl _))
      clear hU4 HF3 HR3 HB3 HLX3
      go_wp2_with fail
      refine (alike_ok l B bg n bc R rg rc _ rwv (List.replicate s 0) most false (-1) 0 0 (-1) 0 w4 HF4.out HR4.out HL.out.1.symm (by have := HS.out; omega) (by have := HS.out; omega) (by omega) (fun z hz => by have := List.eq_of_mem_replicate hz; omega) (by rw [List.length_replicate]; exact HS.out.2.2)).mono ?_
      rintro e w5 ⟨rfl, hb5⟩
      have HB5 := Lib.hid (belowU HB4.out (Upd.ofBelow' (S := fun _ => False) hb5) (fun _ h => h.elim) (Nat.le_refl _))
      clear hb5
      go_wp2_with fail
      refine (known06 _).mono ?_
      rintro e w6 ⟨rfl, hb6⟩
      go_wp2_with fail
      go_ret
      exact ⟨rfl, bstep (B := w.heap.size) (w := w) hb6 HB5.out (Nat.le_refl _)⟩
    · have HOF := Lib.hid (fun g cap W => of_no (some ⟨g, 0, none⟩) n cap most W hV (by omega))
      have HROF := Lib.hid (fun W => rof_no a n c most W (fun h => hV (by omega)) (by omega))
      clear hl hb hnil hV
      go_enter Try.func6, Try.ntmps6
      go_wp2_with fail
      (with_reducible refine HLN.out.mono ?_)
      rintro e w1 ⟨g, cap, rfl, hg, hLx, hb1⟩
      have HB1 := Lib.hid hb1
      clear hg hLx hb1 HLN
      go_wp2_with fail
      (with_reducible refine (HOF.out _ _ _).mono ?_)
      rintro e w2 ⟨rfl, rfl⟩
      go_wp2_with fail
      (with_reducible refine (HROF.out _).mono ?_)
      rintro e w2 ⟨⟨R, rfl⟩, hb2⟩
      have HB2 := Lib.hid (belowU HB1.out (Upd.ofBelow' (S := fun _ => False) hb2) (fun _ h => h.elim) (Nat.le_refl _))
      clear hb2
      go_wp2_with fail
      refine (known06 _).mono ?_
      rintro e w6 ⟨rfl, hb6⟩
      go_wp2_with fail
      go_ret
      exact ⟨rfl, bstep (B := w.heap.size) (w := w) hb6 HB2.out (Nat.le_refl _)⟩
  · have d1 : decide ((20000 : Int) < (n : Int)) = true := decide_eq_true (by omega)
    clear h2
    go_enter Try.func6, Try.ntmps6
    go_wp2_with fail
    refine (known06 _).mono ?_
    rintro e w6 ⟨rfl, hb6⟩
    go_wp2_with fail
    go_ret
    exact ⟨rfl, hb6⟩
theorem of_walk (a0 : Option Addr) (m0 c0 : Nat) (z0 : List Int) (a1 : Int) (W : World) (h0 : IsRow .u8 W a0 m0 c0 z0) (h1 : (Lit.int .i64 a1).wf = true) :
    Calls Try.prog 6 #[.slice a0 m0 c0, .int .i64 a1] W fun e w' => e = .returned (.bool true) ∧ Below W.heap.size W w' := by
  obtain ⟨l, hl, hb, hc, hm⟩ := h0.bytes
  obtain ⟨b0, b1⟩ := wf_bounds h1
  have e1 : IntKind.i64.max = 9223372036854775807 := rfl
  exact of_said a0 m0 c0 l a1 W hl hb (fun h => ⟨by have := h0.le; have := hc h; omega, hc h⟩) (by omega) (by unfold maxLen at hm; omega)
end Go.Proofs.Ytibgfeammjliiaa
