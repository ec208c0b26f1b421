/-
  LAW FlashClears: the walk.
-/
import Derived.Test.YtibgfeammjliiaaFlsR
set_option linter.unusedSimpArgs false
set_option linter.unusedVariables false
namespace Go.Proofs.Ytibgfeammjliiaa
open Go.RowKit
attribute [local go_sem] Oper.semAt_some

def bytesI (l : List UInt8) : List Int := l.map fun u => (u.toNat : Int)
theorem bytesI_length (l : List UInt8) : (bytesI l).length = l.length := by simp [bytesI]
theorem reads_of {w w1 : World} {a : Option Addr} {l : List UInt8} {B g : Nat} (h : Bytes w a l) (hb : Below w.heap.size w w1) (hB : w.heap.size ≤ B) (hg : w.heap.size ≤ g) : Reads w1 B g a (bytesI l) := by
  by_cases hl : l = []
  · subst hl; exact .inl rfl
  · rcases h with h | ⟨b, o, rfl, hc⟩
    · exact absurd h hl
    · have h0 := World.block_lt_of_cell? w _ (hc 0 (List.length_pos_iff.2 hl))
      have h1 : b < w.heap.size := h0
      refine .inr ⟨b, o, rfl, by omega, by omega, fun j z hz => ?_⟩
      unfold bytesI at hz
      rw [List.getElem?_map] at hz
      obtain ⟨u, hu, rfl⟩ := Option.map_eq_some_iff.1 hz
      obtain ⟨hj, hu2⟩ := List.getElem?_eq_some_iff.1 hu
      rw [(hb.cell (p := ⟨b, o + j, none⟩) h1), hc j hj, hu2]
theorem IsRow.le {w : World} {a : Option Addr} {len cap : Nat} {zs : List Int} {k : IntKind} (h : IsRow k w a len cap zs) : len ≤ cap := by
  rcases h with ⟨_, rfl, rfl, _⟩ | ⟨_, _, h, _⟩
  · exact Nat.le_refl _
  · exact h

/-- The flash that the laws' rows make. -/
theorem rows_new (a : Option Addr) (m xc : Nat) (l : List UInt8) (w : World) (hl : l.length = m) (hm : (m : Int) ≤ 9223372036854775807) (hb : Bytes w a l) :
    Calls Try.prog 15 #[.slice a m xc] w fun e w' => ∃ B g c g2 c2, e = .returned (.pointer (some ⟨B, 0, none⟩)) ∧ Fls w' B (.slice (some ⟨g, 0, none⟩) 2048 c) (.slice (some ⟨g2, 0, none⟩) 2 c2) (rowZ l 2048) [0, 0] 5 false (-1) 0 0 ∧
      (w.heap.size ≤ B ∧ w.heap.size ≤ g ∧ w.heap.size ≤ g2) ∧ Below w.heap.size w w' := by
  refine (rows_any a m xc l w hl hm hb).mono ?_
  rintro e w1 ⟨B, bv, wv, rfl, hF, hB, hb, hw, hbl⟩
  obtain ⟨g, c, g2, c2, rfl, rfl⟩ := hF.shape (by rw [rowZ_length]; omega) (by simp)
  rw [rowZ_length] at hF
  exact ⟨B, g, c, g2, c2, rfl, hF, ⟨hB, hb g rfl, hw g2 rfl⟩, hbl⟩

theorem wornZ_one (s : Nat) (hs : s < 2) : wornZ ([0, 0].set s (0 + 1)) (s : Int) = 1 := by
  match s, hs with
  | 0, _ => rfl
  | 1, _ => rfl
theorem wornZ_other (s s1 : Nat) (hs : s < 2) (h : 1 - s = s1) : wornZ ([0, 0].set s (0 + 1)) (s1 : Int) = 0 := by
  subst h
  match s, hs with
  | 0, _ => rfl
  | 1, _ => rfl

set_option maxRecDepth 100000 in
set_option maxHeartbeats 8000000 in
theorem clears_said (la : Option Addr) (m lc : Nat) (l : List UInt8) (at_ : Int) (xa : Option Addr) (xm xc : Nat) (x : List UInt8) (w : World)
    (hl : l.length = m) (hm : (m : Int) ≤ 9223372036854775807) (hb : Bytes w la l) (ha : -9223372036854775808 ≤ at_ ∧ at_ ≤ 9223372036854775807)
    (hx : x.length = xm) (hxm : (xm : Int) ≤ 9223372036854775807) (hxb : Bytes w xa x) (hxc : xm ≤ xc) :
    Calls Try.prog 4 #[.slice la m lc, .int .i64 at_, .slice xa xm xc] w fun e w' => e = .returned (.bool true) ∧ Below w.heap.size w w' := by
  have HC := Lib.hid (rows_new la m lc l w hl hm hb)
  have HX := Lib.hid (And.intro hx hxb)
  have hz : ∀ i, i < 2048 → ∃ z, (rowZ l 2048)[i]? = some z := fun i hi => ⟨_, List.getElem?_eq_getElem (by rw [rowZ_length]; exact hi)⟩
  have hlen := rowZ_length l 2048
  obtain ⟨A, hA⟩ : ∃ A, rowZ l 2048 = A := ⟨_, rfl⟩
  rw [hA] at HC hz hlen
  have HA := Lib.hid (And.intro hlen hz)
  clear hA hlen hz hx hxb hl hb
  by_cases h5 : xm ≤ 500
  · have d1 : decide ((500 : Int) < (xm : Int)) = false := decide_eq_false (by omega)
    obtain ⟨nn, hnn⟩ : ∃ nn, 2048 - xm = nn := ⟨_, rfl⟩
    obtain ⟨k, hk⟩ : ∃ k : Nat, at_ % (nn : Int) = (k : Int) := ⟨(at_ % (nn : Int)).toNat, by have := Int.emod_nonneg at_ (show (nn : Int) ≠ 0 by omega); omega⟩
    have hkn : k < nn := by have := Int.emod_lt_of_pos at_ (show (0 : Int) < nn by omega); omega
    have HCN := Lib.hid (fun W => count_any at_ nn W ha (by omega) (by omega))
    rw [hk] at HCN
    have d2 : (2048 : Int) - (xm : Int) = (nn : Int) := by omega
    have hkx : k + xm ≤ 2048 := by omega
    obtain ⟨s, hs⟩ : ∃ s, k / 1024 = s := ⟨_, rfl⟩
    have d3 : (k : Int) / 1024 = (s : Int) := by omega
    have hs2 : s < 2 := by omega
    obtain ⟨s1, hs1⟩ : ∃ s1, 1 - s = s1 := ⟨_, rfl⟩
    have d4 : (1 : Int) - (s : Int) = (s1 : Int) := by omega
    have HK := Lib.hid (And.intro hkx (And.intro hs (And.intro hs2 hs1)))
    have HD := Lib.hid (And.intro d2 (And.intro d3 d4))
    obtain ⟨hk0, hkb⟩ : k < 2048 ∧ s ≤ 1 := by omega
    clear hk hnn hs hs1 d2 d3 d4 ha
    go_enter Try.func4, Try.ntmps4
    go_wp2_with fail
    (with_reducible refine HC.out.mono ?_)
    rintro e w1 ⟨B, g, c, g2, c2, rfl, hF1, hS, hb1⟩
    have HF1 := Lib.hid hF1
    have HS := Lib.hid (And.intro hS hF1.lts)
    have HB1 := Lib.hid hb1
    clear hF1 hS hb1 HC
    have d2 := HD.out.1
    go_wp2_with fail
    clear d2
    (with_reducible refine (HCN.out _).mono ?_)
    rintro e w2 ⟨rfl, rfl⟩
    go_wp2_with fail
    refine (bytes_any B g 2048 c _ A _ _ _ _ _ _ w1 HF1.out HA.out.1.symm (by omega) (by omega)).mono ?_
    rintro e w2 ⟨v, rfl, ga, ca, rfl, hga, hown2, hb2⟩
    rw [HA.out.1] at hown2 ⊢
    have HLA := Lib.hid (Lax.of_own hown2)
    have HF2 := Lib.hid (HF1.out.below hb2)
    have HB2 := Lib.hid (belowU HB1.out (Upd.ofBelow' (S := fun _ => False) hb2) (fun _ h => h.elim) (Nat.le_refl _))
    have HNA := Lib.hid (show B ≠ ga ∧ g ≠ ga ∧ g2 ≠ ga from by have := HS.out; omega)
    clear hga hown2 hb2 HF1 HB1
    go_wp2_with fail
    refine (prog_whole B g 2048 c _ A [0, 0] 5 0 0 k xa (bytesI x) xc xm _ HF2.out HA.out.1.symm HK.out.1 (by rw [bytesI_length]; exact HX.out.1.symm) (reads_of HX.out.2 HB2.out HS.out.1.1 HS.out.1.2.1) (by omega) (by omega) hxc).mono ?_
    rintro e w3 ⟨rfl, hF3, hU3⟩
    obtain ⟨Pz, hP⟩ : ∃ Pz, progZ A k (bytesI x) xm = Pz := ⟨_, rfl⟩
    have hPl : Pz.length = 2048 := by rw [← hP, progZ_length]; exact HA.out.1
    rw [hP] at hF3
    have HP := Lib.hid (And.intro hP hPl)
    have HF3 := Lib.hid hF3
    have HLA3 := Lib.hid (HLA.out.upd hU3 (fun j hj h => by have e : ga = j := Option.some.inj hj; have := HNA.out; rcases h with h | h <;> omega))
    have HB3 := Lib.hid (belowU HB2.out hU3 (fun i h => by have := HS.out; rcases h with h | h <;> omega) (Nat.le_refl _))
    clear hP hPl hF3 hU3 HF2 HLA HB2
    go_wp2_with fail
    refine (bytes_any B g 2048 c _ Pz _ _ _ _ _ _ _ HF3.out HP.out.2.symm (by omega) (by omega)).mono ?_
    rintro e w4 ⟨v, rfl, gi, ci, rfl, hgi, hown4, hb4⟩
    rw [HP.out.2] at hown4 ⊢
    have HLP := Lib.hid (Lax.of_own hown4)
    have HF4 := Lib.hid (HF3.out.below hb4)
    have HLA4 := Lib.hid (HLA3.out.below hb4)
    have HB4 := Lib.hid (belowU HB3.out (Upd.ofBelow' (S := fun _ => False) hb4) (fun _ h => h.elim) (Nat.le_refl _))
    have HNI := Lib.hid (show B ≠ gi ∧ g ≠ gi ∧ g2 ≠ gi from by have := HF3.out.lts; omega)
    clear hgi hown4 hb4 HF3 HLA3 HB3
    have d3 := HD.out.2.1
    go_wp2_with fail
    clear d3
    refine (erase_whole B g 2048 c g2 2 c2 Pz [0, 0] 5 (-1) 0 (0 + (xm : Int)) s 0 _ HF4.out HP.out.2.symm rfl (by have := HK.out.2.2.1; match s, this with | 0, _ => rfl | 1, _ => rfl) (by omega) (by omega) (by have := HK.out; omega) (by omega) (by omega) (by omega) (by omega)).mono ?_
    rintro e w5 ⟨rfl, hF5, hU5⟩
    obtain ⟨E, hE⟩ : ∃ E, fillZ Pz (s * 1024) 1024 = E := ⟨_, rfl⟩
    have hEl : E.length = 2048 := by rw [← hE, fillZ_length]; exact HP.out.2
    rw [hE] at hF5
    have HE := Lib.hid (And.intro hE hEl)
    have HF5 := Lib.hid hF5
    have HLA5 := Lib.hid (HLA4.out.upd hU5 (fun j hj h => by have e : ga = j := Option.some.inj hj; have := HNA.out; rcases h with h | h | h <;> omega))
    have HLP5 := Lib.hid (HLP.out.upd hU5 (fun j hj h => by have e : gi = j := Option.some.inj hj; have := HNI.out; rcases h with h | h | h <;> omega))
    have HB5 := Lib.hid (belowU HB4.out hU5 (fun i h => by have := HS.out; rcases h with h | h | h <;> omega) (Nat.le_refl _))
    clear hE hEl hF5 hU5 HF4 HLA4 HLP HB4
    go_wp2_with fail
    refine (bytes_any B g 2048 c _ E _ _ _ _ _ _ _ HF5.out HE.out.2.symm (by omega) (by omega)).mono ?_
    rintro e w6 ⟨v, rfl, gn, cn, rfl, hgn, hown6, hb6⟩
    rw [HE.out.2] at hown6 ⊢
    have HLE := Lib.hid (Lax.of_own hown6)
    have HF6 := Lib.hid (HF5.out.below hb6)
    have HLA6 := Lib.hid (HLA5.out.below hb6)
    have HLP6 := Lib.hid (HLP5.out.below hb6)
    have HB6 := Lib.hid (belowU HB5.out (Upd.ofBelow' (S := fun _ => False) hb6) (fun _ h => h.elim) (Nat.le_refl _))
    clear hgn hown6 hb6 HF5 HLA5 HLP5 HB5
    have HW1 := worn_any B _ _ E _ 5 _ _ _ _ (s : Int) w6 HF6.out
    have HW2 := worn_any B _ _ E _ 5 _ _ _ _ (s1 : Int) w6 HF6.out
    rw [wornZ_one s HK.out.2.2.1] at HW1
    rw [wornZ_other s s1 HK.out.2.2.1 HK.out.2.2.2] at HW2
    have HW1 := Lib.hid HW1
    have HW2 := Lib.hid HW2
    have d3 := HD.out.2.1
    have d4 := HD.out.2.2
    go_wp2_with fail
    (with_reducible refine HW1.out.mono ?_)
    rintro e w7 ⟨rfl, rfl⟩
    go_wp2_with fail
    (with_reducible refine HW2.out.mono ?_)
    rintro e w7 ⟨rfl, rfl⟩
    clear HW1 HW2 d3 d4
    go_wp2_with fail
    go_loopg [14] 2048 (fun gg i wr => ∃ j N : Nat, j ≤ 2048 ∧ gg = 2048 - j ∧ i = .int .i64 (j : Int) ∧ wr = w6.drewN N)
    case atStart => exact ⟨0, 0, by omega, by omega, rfl, rfl⟩
    case round =>
      obtain ⟨i, N, hi, hgi, rfl, rfl⟩ := hrel
      have HG := Lib.hid hgi
      clear hgi
      by_cases hi2 : i < 2048
      · have di : (i : Int) < 2048 := by omega
        obtain ⟨zA, hzA⟩ := HA.out.2 i hi2
        have cA : w6.cell? ⟨ga, i, none⟩ = some (.int .u8 zA) := HLA6.out.cell (by unfold zv; rw [List.getElem?_map, hzA]; rfl)
        obtain ⟨r, hr⟩ : ∃ r, i / 1024 = r := ⟨_, rfl⟩
        have HR := Lib.hid (show (i : Int) / 1024 = (r : Int) by omega)
        have hrs : r = s → E[i]? = some 255 := fun e => by
          have h1 := HE.out.1
          have h2 := HP.out.2
          have h3 := HK.out
          rw [← h1, fillZ_get _ _ _ _ (by omega), if_pos (by omega)]
        have hrn : r ≠ s → E[i]? = Pz[i]? := fun e => by
          have h1 := HE.out.1
          have h2 := HP.out.2
          have h3 := HK.out
          rw [← h1, fillZ_get _ _ _ _ (by omega), if_neg (by omega)]
        have HRS := Lib.hid (And.intro hrs hrn)
        have HZA := Lib.hid hzA
        clear hrs hrn hr hzA
        by_cases hin : k ≤ i ∧ i < k + xm
        · obtain ⟨hin1, hin2⟩ := hin
          obtain ⟨j, hj⟩ : ∃ j, i - k = j := ⟨_, rfl⟩
          have hjx : j < xm := by omega
          have hjl : j < x.length := by rw [HX.out.1]; exact hjx
          obtain ⟨xb, xo, rfl, hxc2⟩ := HX.out.2.resolve_left (fun e => by rw [e] at hjl; simp at hjl)
          have hc := hxc2 j hjl
          have hlt := World.block_lt_of_cell? w _ hc
          have cX := (HB6.out.cell hlt).trans hc
          obtain ⟨xv, hxv⟩ : ∃ xv : Int, ((x[j]'hjl).toNat : Int) = xv := ⟨_, rfl⟩
          rw [hxv] at cX
          obtain ⟨y, hy⟩ : ∃ y, bits .and .u8 zA xv = y := ⟨_, rfl⟩
          have hPi : Pz[i]? = some y := by
            rw [← HP.out.1, progZ_get _ _ _ _ _ (by rw [HA.out.1]; exact HK.out.1), if_pos ⟨hin1, hin2⟩, HZA.out, hj]
            unfold bytesI
            rw [List.getElem?_map, List.getElem?_eq_getElem hjl]
            simp only [Option.map_some, Option.getD_some]
            rw [hxv, hy]
          have cP : w6.cell? ⟨gi, i, none⟩ = some (.int .u8 y) := HLP6.out.cell (by unfold zv; rw [List.getElem?_map, hPi]; rfl)
          have e1 : (k : Int) ≤ (i : Int) := by omega
          have e2 : (i : Int) < (k : Int) + (xm : Int) := by omega
          have e3 : (i : Int) - (k : Int) = (j : Int) := by omega
          have hPi := Lib.hid hPi
          clear hc hxc2 hj hxv
          by_cases hrs : r = s
          · have cE : w6.cell? ⟨gn, i, none⟩ = some (.int .u8 255) := HLE.out.cell (by unfold zv; rw [List.getElem?_map, HRS.out.1 hrs]; rfl)
            subst hrs
            go_wp2_with fail
            go_quiet (fail)
            go_wp2_with fail
            have d3 := HD.out.2.1
            have dr := HR.out
            go_quiet (fail)
            clear d3 dr
            go_wp2_with fail
            go_roundg (2048 - (i + 1))
            case measure => have := HG.out; omega
            case rel => exact ⟨i + 1, _, by omega, rfl, by go_num, rfl⟩
          · have cE : w6.cell? ⟨gn, i, none⟩ = some (.int .u8 y) := HLE.out.cell (by unfold zv; rw [List.getElem?_map, HRS.out.2 hrs, hPi.out]; rfl)
            have n1 : ((r : Int) == (s : Int)) = false := beq_eq_false_iff_ne.2 (by omega)
            have n2 : ((r : Int) != (s : Int)) = true := bne_iff_ne.2 (by omega)
            have n3 : (r == s) = false := beq_eq_false_iff_ne.2 hrs
            have n4 : (r != s) = true := bne_iff_ne.2 hrs
            clear hrs
            go_wp2_with fail
            go_quiet (fail)
            go_wp2_with fail
            have d3 := HD.out.2.1
            have dr := HR.out
            go_quiet (fail)
            clear d3 dr
            go_wp2_with fail
            go_roundg (2048 - (i + 1))
            case measure => have := HG.out; omega
            case rel => exact ⟨i + 1, _, by omega, rfl, by go_num, rfl⟩
        · obtain ⟨y, rfl⟩ : ∃ y, y = zA := ⟨_, rfl⟩
          have hPi : Pz[i]? = some y := by
            rw [← HP.out.1, progZ_get _ _ _ _ _ (by rw [HA.out.1]; exact HK.out.1), if_neg hin, HZA.out]
          have cP : w6.cell? ⟨gi, i, none⟩ = some (.int .u8 y) := HLP6.out.cell (by unfold zv; rw [List.getElem?_map, hPi]; rfl)
          have hPi := Lib.hid hPi
          by_cases hki : k ≤ i
          · have e1 : (k : Int) ≤ (i : Int) := by omega
            have e2 : (k : Int) + (xm : Int) ≤ (i : Int) := by omega
            clear hin
            by_cases hrs : r = s
            · have cE : w6.cell? ⟨gn, i, none⟩ = some (.int .u8 255) := HLE.out.cell (by unfold zv; rw [List.getElem?_map, HRS.out.1 hrs]; rfl)
              subst hrs
              go_wp2_with fail
              have d3 := HD.out.2.1
              have dr := HR.out
              go_quiet (fail)
              clear d3 dr
              go_wp2_with fail
              go_roundg (2048 - (i + 1))
              case measure => have := HG.out; omega
              case rel => exact ⟨i + 1, _, by omega, rfl, by go_num, rfl⟩
            · have cE : w6.cell? ⟨gn, i, none⟩ = some (.int .u8 y) := HLE.out.cell (by unfold zv; rw [List.getElem?_map, HRS.out.2 hrs, hPi.out]; rfl)
              have n1 : ((r : Int) == (s : Int)) = false := beq_eq_false_iff_ne.2 (by omega)
              have n2 : ((r : Int) != (s : Int)) = true := bne_iff_ne.2 (by omega)
              have n3 : (r == s) = false := beq_eq_false_iff_ne.2 hrs
              have n4 : (r != s) = true := bne_iff_ne.2 hrs
              clear hrs
              go_wp2_with fail
              have d3 := HD.out.2.1
              have dr := HR.out
              go_quiet (fail)
              clear d3 dr
              go_wp2_with fail
              go_roundg (2048 - (i + 1))
              case measure => have := HG.out; omega
              case rel => exact ⟨i + 1, _, by omega, rfl, by go_num, rfl⟩
          · have e1 : (i : Int) < (k : Int) := by omega
            clear hin hki
            by_cases hrs : r = s
            · have cE : w6.cell? ⟨gn, i, none⟩ = some (.int .u8 255) := HLE.out.cell (by unfold zv; rw [List.getElem?_map, HRS.out.1 hrs]; rfl)
              subst hrs
              go_wp2_with fail
              have d3 := HD.out.2.1
              have dr := HR.out
              go_quiet (fail)
              clear d3 dr
              go_wp2_with fail
              go_roundg (2048 - (i + 1))
              case measure => have := HG.out; omega
              case rel => exact ⟨i + 1, _, by omega, rfl, by go_num, rfl⟩
            · have cE : w6.cell? ⟨gn, i, none⟩ = some (.int .u8 y) := HLE.out.cell (by unfold zv; rw [List.getElem?_map, HRS.out.2 hrs, hPi.out]; rfl)
              have n1 : ((r : Int) == (s : Int)) = false := beq_eq_false_iff_ne.2 (by omega)
              have n2 : ((r : Int) != (s : Int)) = true := bne_iff_ne.2 (by omega)
              have n3 : (r == s) = false := beq_eq_false_iff_ne.2 hrs
              have n4 : (r != s) = true := bne_iff_ne.2 hrs
              clear hrs
              go_wp2_with fail
              have d3 := HD.out.2.1
              have dr := HR.out
              go_quiet (fail)
              clear d3 dr
              go_wp2_with fail
              go_roundg (2048 - (i + 1))
              case measure => have := HG.out; omega
              case rel => exact ⟨i + 1, _, by omega, rfl, by go_num, rfl⟩
      · obtain rfl : i = 2048 := by omega
        clear hi2
        go_wp2_with fail
        refine (known06 _).mono ?_
        rintro e w7 ⟨rfl, hb7⟩
        go_wp2_with fail
        go_ret
        exact ⟨rfl, bstep (B := w.heap.size) (w := w) hb7 (belowU HB6.out ((Upd.refl (fun _ => False) w6).drewN N) (fun _ h => h.elim) (Nat.le_refl _)) (Nat.le_refl _)⟩
  · have d1 : decide ((500 : Int) < (xm : Int)) = true := decide_eq_true (by omega)
    go_enter Try.func4, Try.ntmps4
    go_wp2_with fail
    (with_reducible refine HC.out.mono ?_)
    rintro e w1 ⟨B, g, c, g2, c2, rfl, hF1, hS, hb1⟩
    have HB1 := Lib.hid hb1
    clear hF1 hS hb1 HC
    go_wp2_with fail
    refine (known06 _).mono ?_
    rintro e w7 ⟨rfl, hb7⟩
    go_wp2_with fail
    go_ret
    exact ⟨rfl, bstep (B := w.heap.size) (w := w) hb7 HB1.out (Nat.le_refl _)⟩
theorem clears_walk (a0 : Option Addr) (m0 c0 : Nat) (z0 : List Int) (a1 : Int) (a2 : Option Addr) (m2 c2 : Nat) (z2 : List Int) (W : World) (h0 : IsRow .u8 W a0 m0 c0 z0) (h1 : (Lit.int .i64 a1).wf = true) (h2 : IsRow .u8 W a2 m2 c2 z2) :
    Calls Try.prog 4 #[.slice a0 m0 c0, .int .i64 a1, .slice a2 m2 c2] W fun e w' => e = .returned (.bool true) ∧ Below W.heap.size W w' := by
  obtain ⟨l, hl, hb, _, hm⟩ := h0.bytes
  obtain ⟨x, hx, hxb, _, hxm⟩ := h2.bytes
  obtain ⟨b0, b1⟩ := wf_bounds h1
  have e0 : IntKind.i64.min = -9223372036854775808 := rfl
  have e1 : IntKind.i64.max = 9223372036854775807 := rfl
  exact clears_said a0 m0 c0 l a1 a2 m2 c2 x W hl (by unfold maxLen at hm; omega) hb (by omega) hx (by unfold maxLen at hxm; omega) hxb h2.le
end Go.Proofs.Ytibgfeammjliiaa
