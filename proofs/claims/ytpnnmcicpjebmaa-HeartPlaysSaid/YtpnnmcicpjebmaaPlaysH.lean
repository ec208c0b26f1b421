/-
  LAW HeartPlays: the walk.
-/
import Derived.Test.YtpnnmcicpjebmaaPlayI
import Derived.Test.YtpnnmcicpjebmaaOpsH
import Derived.Test.YtpnnmcicpjebmaaAllH
import Derived.Test.YtpnnmcicpjebmaaSameH
import Derived.Test.YtpnnmcicpjebmaaSpoil
import Derived.Test.YtpnnmcicpjebmaaKnown26
import Derived.Deep.RegionHeld3
set_option linter.unusedSimpArgs false
set_option linter.unusedVariables false
namespace Go.Proofs.Ytpnnmcicpjebmaa
open Go.RowKit
attribute [local go_sem] Oper.semAt_some

set_option maxRecDepth 100000 in
set_option maxHeartbeats 2000000 in
theorem hplays_no (n0 : Int) (a : Option Addr) (len cap : Nat) (w : World) (hlen : (len : Int) ≤ 9223372036854775807) (hn : ¬ (1 ≤ n0 ∧ n0 ≤ 127)) :
    Calls Try.prog 11 #[.int .i64 n0, .slice a len cap] w fun e w' => e = .returned (.bool true) ∧ Below w.heap.size w w' := by
  go_enter Try.func11, Try.ntmps11
  go_wp2_with fail
  refine (hnew_no n0 _ hn).mono ?_
  rintro e w1 ⟨rfl, rfl⟩
  go_wp2_with fail
  refine (rnew_no n0 _ hn).mono ?_
  rintro e w1 ⟨p, rfl, hb1⟩
  have HB1 := Lib.hid hb1
  clear hb1 hn
  cases p <;>
  · go_wp2_with fail
    go_loopg [9] 0 (fun gg i wr => i = .int .i64 0 ∧ Below w.heap.size w wr)
    case atStart => exact ⟨rfl, HB1.out⟩
    case round =>
      obtain ⟨rfl, hB⟩ := hrel
      have HB := Lib.hid hB
      clear hB HB1
      by_cases h0 : 0 < len
      · have d1 : (0 : Int) < (len : Int) := by omega
        go_wp2_with fail
        refine (known26 _).mono ?_
        rintro e w5 ⟨rfl, hb5⟩
        go_wp2_with fail
        go_ret
        exact ⟨rfl, HB.out.trans (hb5.mono HB.out.size)⟩
      · obtain rfl : len = 0 := by omega
        go_wp2_with fail
        refine (known26 _).mono ?_
        rintro e w5 ⟨rfl, hb5⟩
        go_wp2_with fail
        go_ret
        exact ⟨rfl, HB.out.trans (hb5.mono HB.out.size)⟩

set_option maxRecDepth 100000 in
set_option maxHeartbeats 16000000 in
theorem hplays_yes (n : Int) (a : Option Addr) (len cap : Nat) (w : World) (hlen : (len : Int) ≤ 9223372036854775807) (hO : Ops w a len) (hn : 1 ≤ n ∧ n ≤ 127) :
    Calls Try.prog 11 #[.int .i64 n, .slice a len cap] w fun e w' => e = .returned (.bool true) ∧ Below w.heap.size w w' := by
  have HO := Lib.hid hO
  have HNN := Lib.hid hn
  clear hO
  go_enter Try.func11, Try.ntmps11
  go_wp2_with fail
  refine (hnew_ok n _ hn).mono ?_
  rintro e w1 ⟨rfl, rfl⟩
  go_wp2_with fail
  refine (rnew_ok n _ hn).mono ?_
  rintro e w1 ⟨rfl, rfl⟩
  have HI : Hid (PlayI w n w.heap.size (w.heap.size + 1) ((w.alloc (.cells #[.int .i64 n, .int .i64 0, .int .i64 0, .slice none 0 0] 80)).alloc (.cells #[.int .i64 n, .int .i64 0, .int .i64 0, .slice none 0 0] 97))) :=
    ⟨0, 0, [], 0, none, 0, 0, none, 0, 0, akeep _ (heap_alloc_new _ _), ⟨rfl, .inl rfl⟩, anew _ _ (by simp), ⟨rfl, .inl rfl⟩, ⟨by omega, by omega, fun h => absurd rfl h, by omega, fun p hp => by cases hp⟩, ⟨Nat.le_refl _, by omega, .inl rfl⟩, by go_grown⟩
  clear hn
  go_wp2_with fail
  generalize w.heap.size + 1 = rb at *
  go_loopg [9] 100 (fun gg i wr => ∃ k : Nat, k ≤ 100 ∧ gg = 100 - k ∧ i = .int .i64 k ∧ PlayI w n w.heap.size rb wr)
  case atStart => exact ⟨0, by omega, by omega, rfl, HI.out⟩
  case round =>
    obtain ⟨k, hk, hgk, rfl, ev, le, ps, m, pa, g, c, ra, rg, rc, hPC⟩ := hrel
    have HG := Lib.hid hgk
    have HC := Lib.hid hPC
    have hwl : w.heap.size ≤ wr.heap.size := hPC.2.2.2.2.2.2.size
    clear hgk hPC HI
    by_cases hk1 : k < len ∧ k < 100
    · obtain ⟨hk1, hk2⟩ := hk1
      obtain ⟨lb, off, rfl, hlb, hops⟩ : ∃ lb off, a = some ⟨lb, off, none⟩ ∧ lb < w.heap.size ∧ ∀ i, i < len → OpAt w lb off i := by
        rcases HO.out with h0 | h0
        · omega
        · exact h0
      obtain ⟨kd, N, id, rem, fa, l, fc, wa, us, wc, he, hBy, hU, hl1, hl2⟩ := hops k hk1
      obtain ⟨e0, e1, e2, e3, e4, e5⟩ := elem6 (he.below HC.out.2.2.2.2.2.2)
      have d1 : (k : Int) < (len : Int) := by omega
      have d2 : (k : Int) < 100 := by omega
      have hlw : lb < wr.heap.size := by omega
      have HBY := Lib.hid (hBy.below HC.out.2.2.2.2.2.2)
      have HUS := Lib.hid (hU.below HC.out.2.2.2.2.2.2)
      have HB0 := Lib.hid hBy
      have HU0 := Lib.hid hU
      clear hops he hBy hU
      go_upto_region 9 with fail
      have HC1 := Lib.hid (HC.out.below (w' := wr.alloc (.cells #[.int .i64 kd, .int .i64 N, .int .i64 id, .bool rem, .slice fa l.length fc, .slice wa us.length wc] 69)) (by go_grown))
      have HBY1 := Lib.hid (HBY.out.below (show Below wr.heap.size wr (wr.alloc (.cells #[.int .i64 kd, .int .i64 N, .int .i64 id, .bool rem, .slice fa l.length fc, .slice wa us.length wc] 69)) by go_grown))
      have HUS1 := Lib.hid (HUS.out.below (show Below wr.heap.size wr (wr.alloc (.cells #[.int .i64 kd, .int .i64 N, .int .i64 id, .bool rem, .slice fa l.length fc, .slice wa us.length wc] 69)) by go_grown))
      have hX : (wr.alloc (.cells #[.int .i64 kd, .int .i64 N, .int .i64 id, .bool rem, .slice fa l.length fc, .slice wa us.length wc] 69)).heap[wr.heap.size]? = some (.cells #[.int .i64 kd, .int .i64 N, .int .i64 id, .bool rem, .slice fa l.length fc, .slice wa us.length wc] 69 (0, 0)) := heap_alloc_new _ _
      have hbx := HC.out.lt
      generalize hW : wr.alloc (.cells #[.int .i64 kd, .int .i64 N, .int .i64 id, .bool rem, .slice fa l.length fc, .slice wa us.length wc] 69) = W1 at *
      have hW1 : wr.heap.size < W1.heap.size := lt_of_block hX
      have HX := Lib.hid hX
      clear hW hX HC HBY HUS e0 e1 e2 e3 e4 e5
      obtain ⟨hbx1, hbx2, hbx3⟩ := hbx
      have hwB : w.heap.size ≤ wr.heap.size := by omega
      generalize wr.heap.size = B at *
      have o0 : W1.cell? ⟨B, 0, none⟩ = some (.int .i64 kd) := by simp [World.cell?, HX.out]
      have o1 : W1.cell? ⟨B, 1, none⟩ = some (.int .i64 N) := by simp [World.cell?, HX.out]
      have o2 : W1.cell? ⟨B, 2, none⟩ = some (.int .i64 id) := by simp [World.cell?, HX.out]
      have o3 : W1.cell? ⟨B, 3, none⟩ = some (.bool rem) := by simp [World.cell?, HX.out]
      have o4 : W1.cell? ⟨B, 4, none⟩ = some (.slice fa l.length fc) := by simp [World.cell?, HX.out]
      have o5 : W1.cell? ⟨B, 5, none⟩ = some (.slice wa us.length wc) := by simp [World.cell?, HX.out]
      by_cases hb1 : 100 < l.length
      · have d3 : (100 : Int) < (l.length : Int) := by omega
        clear hb1
        go_wp2_with fail
        go_roundg (100 - (k + 1))
        case measure => have := HG.out; omega
        case rel => exact ⟨k + 1, by omega, rfl, by go_num, ev, le, ps, m, pa, g, c, ra, rg, rc, HC1.out⟩
      have d3 : ¬ (100 : Int) < (l.length : Int) := by omega
      by_cases hb2 : 100 < us.length
      · have d4 : (100 : Int) < (us.length : Int) := by omega
        clear hb1 hb2
        go_wp2_with fail
        go_roundg (100 - (k + 1))
        case measure => have := HG.out; omega
        case rel => exact ⟨k + 1, by omega, rfl, by go_num, ev, le, ps, m, pa, g, c, ra, rg, rc, HC1.out⟩
      have d4 : ¬ (100 : Int) < (us.length : Int) := by omega
      have hll : (l.length : Int) ≤ 70368744177664 := by omega
      clear hb1 hb2
      have hn0 : n ≠ 0 := by have := HNN.out; omega
      obtain ⟨hH, hP, hRH, hRP, hL, hlo, hBl⟩ := HC1.out
      have HH := Lib.hid hH
      have HP := Lib.hid hP
      have HRH := Lib.hid hRH
      have HRP := Lib.hid hRP
      have HL := Lib.hid hL
      have HLO := Lib.hid hlo
      have HBL := Lib.hid hBl
      have hm4 : (m : Int) ≤ 1000 := by have := hL.2.2.2.1; omega
      have HLT := Lib.hid HC1.out.lt
      have HAP := Lib.hid HC1.out.apart
      clear hH hP hRH hRP hL hlo hBl
      by_cases k0 : kd = 0
      · subst k0
        go_wp2_with fail
        refine (tickH_any w.heap.size g n ev le pa m c ps N W1 HH.out HP.out HNN.out HL.out.2.1 hm4 (fun p hp ht => ((HL.out.2.2.2.2 p hp).2 ht).1)).mono ?_
        rintro e w3 ⟨out, nv, rfl, hout, hown, hH3, hP3, hU3⟩
        have HM := Lib.hid (HC1.out.mine hU3 (fun k h => h))
        have p1 : w3.cell? ⟨B, 1, none⟩ = some (.int .i64 N) := hU3.cell_some o1 (fun h => by rcases h with h | ⟨h0, h⟩; (· simp only at h; omega); (· have := hbx3.resolve_left h0; simp only at h; omega))
        have s3 := hU3.size
        have HOUT := Lib.hid hout
        have HOWN := Lib.hid hown
        have HH3 := Lib.hid hH3
        have HP3 := Lib.hid hP3
        have HU3 := Lib.hid hU3
        clear hout hown hH3 hP3 hU3
        go_wp2_with fail
        refine (rtick_any rb rg n ev le ra m rc ps N w3 HM.out.1 HM.out.2.1 HNN.out HL.out.1 (fun h => ⟨HL.out.2.2.1 h, HL.out.2.1.2⟩) hm4 (fun p hp ht => ⟨((HL.out.2.2.2.2 p hp).2 ht).1.1, ((HL.out.2.2.2.2 p hp).2 ht).1.2, ((HL.out.2.2.2.2 p hp).2 ht).2⟩)).mono ?_
        rintro e w4 ⟨rout, rnv, rfl, hrout, hrown, hR4, hRP4, hU4⟩
        have HC4 := Lib.hid (HC1.out.step HU3.out (fun k h => h) HH3.out HP3.out hU4 (fun k h => h) hR4 hRP4 HL.out.tick HLO.out.2.2 (HAP.out.2.imp (fun x => x) (fun x e => by rcases e with e | ⟨_, e⟩; (· exact x.1 e.symm); (· exact x.2.2.1 e.symm))))
        have hlo4 : ∀ k, W1.heap.size ≤ k → ¬ (k = rb ∨ (m ≠ 0 ∧ k = rg)) := fun k hk h => by rcases h with h | ⟨h0, h⟩; (· omega); (· have := hbx3.resolve_left h0; omega)
        obtain ⟨a1, c1, rfl, hN1⟩ := newsAt_of (own_keep HOWN.out hU4 hlo4)
        obtain ⟨a2, c2, rfl, hN2⟩ := newsAt_of hrown
        have htl : ((tkN ps).length : Int) ≤ 1000 := by
          have h1 := tkN_len ps ps.length
          rw [List.take_length] at h1
          have h2 := HP.out.1
          have h3 := HL.out.2.2.2.1
          omega
        have HN1 := Lib.hid hN1
        have HN2 := Lib.hid hN2
        have s4 := hU4.size
        generalize tkN ps = news at *
        by_cases hdue : btDue ev le N
        · obtain ⟨g1, rfl, hg1, hbt⟩ : ∃ g1, out = .slice (some ⟨g1, 0, none⟩) 1 1 ∧ W1.heap.size ≤ g1 ∧ Beat1 w3 W1.heap.size g1 n N := by
            rcases HOUT.out with ⟨_, h⟩ | ⟨h, _⟩
            · exact h
            · exact absurd hdue h
          obtain ⟨g2, d2', cap2, rfl, hg2, hd2, hf2⟩ : ∃ g2 d2 cap, rout = .slice (some ⟨g2, 0, none⟩) 1 cap ∧ w3.heap.size ≤ g2 ∧ w3.heap.size ≤ d2 ∧ FB w4 g2 d2 n N := by
            rcases hrout with ⟨_, h⟩ | ⟨h, _⟩
            · exact h
            · exact absurd hdue h
          obtain ⟨d1', hd1, hf1⟩ := fb_of hbt
          obtain ⟨u, hu⟩ := kn_u8 (sv5 hdue.2.2).1
          have F1 := Lib.hid (hf1.upd hU4 (hlo4 _ hg1) (hlo4 _ hd1))
          have F2 := Lib.hid hf2
          clear hrown hR4 hRP4 hU4 hN1 hN2 hf1 hf2 hrout hbt HOUT hlo4 HOWN HM HU3 HH3 HP3 p1 hdue
          go_wp2_with fail
          refine (all_one n N u hu g1 d1' g2 d2' 1 cap2 w4 F1.out F2.out).mono ?_
          rintro e w5 ⟨rfl, hb5⟩
          have HB5 := Lib.hid hb5
          have s5 := hb5.size
          clear hb5
          go_wp2_with fail
          refine (hsame_any news a1 a2 c1 c2 w5 htl (HN1.out.below HB5.out) (HN2.out.below HB5.out)).mono ?_
          rintro e w6 ⟨rfl, hb6⟩
          have HB6 := Lib.hid (HB5.out.trans (hb6.mono s5))
          have s6 := hb6.size
          clear hb6 HB5
          have HF6 : Hid (FB w6 g1 d1' n N) := F1.out.upd (Upd.ofBelow' (S := fun _ => False) HB6.out) (fun x => x) (fun x => x)
          obtain ⟨q0, q1, q2⟩ := HF6.out.cells
          go_wp2_with fail
          go_loopg [15] 1 (fun gg i wr => (i = .int .i64 0 ∧ gg = 1 ∧ wr = w6) ∨ (i = .int .i64 1 ∧ gg = 0 ∧ Below W1.heap.size w6 wr))
          case atStart => exact .inl ⟨rfl, rfl, rfl⟩
          case round =>
            rcases hrel with ⟨rfl, hgg, hw⟩ | ⟨rfl, hgg, hB7⟩
            · subst hw
              go_wp2_with fail
              refine (spoil_any [N] _ W1.heap.size _ (by simp) (own_byte HF6.out.2 hd1) (by omega)).mono ?_
              rintro e w7 ⟨rfl, hb7⟩
              have HB7 := Lib.hid hb7
              clear hb7
              go_wp2_with fail
              go_roundg 0
              case measure => omega
              case rel => exact .inr ⟨by go_num, rfl, HB7.out⟩
            · have HC7 := Lib.hid ((HC4.out.below HB6.out).upd (Upd.ofBelow hB7) ⟨by omega, by omega, hbx3.imp (fun x => x) (fun x => ⟨by omega, by omega⟩)⟩ (fun k hk h => by omega))
              clear hB7
              go_wp2_with fail
              go_roundg (100 - (k + 1))
              case measure => have := HG.out; omega
              case rel => exact ⟨k + 1, by omega, rfl, by go_num, ev, btL ev le, ps.map tkP, m, pa, g, c, ra, rg, rc, HC7.out⟩
        · obtain rfl : out = .slice none 0 0 := by
            rcases HOUT.out with ⟨h, _⟩ | ⟨_, h⟩
            · exact absurd h hdue
            · exact h
          obtain rfl : rout = .slice none 0 0 := by
            rcases hrout with ⟨h, _⟩ | ⟨_, h⟩
            · exact absurd h hdue
            · exact h
          clear hrown hR4 hRP4 hU4 hN1 hN2 hrout HOUT hlo4 HOWN HM HU3 HH3 HP3 p1 hdue
          go_wp2_with fail
          refine (all_nil w4).mono ?_
          rintro e w5 ⟨rfl, rfl⟩
          go_wp2_with fail
          refine (hsame_any news a1 a2 c1 c2 _ htl HN1.out HN2.out).mono ?_
          rintro e w6 ⟨rfl, hb6⟩
          have HC6 := Lib.hid (HC4.out.below hb6)
          clear hb6
          go_wp2_with fail
          go_loopg [15] 0 (fun gg i wr => i = .int .i64 0 ∧ wr = w6)
          case atStart => exact ⟨rfl, rfl⟩
          case round =>
            obtain ⟨rfl, hw⟩ := hrel
            subst hw
            go_wp2_with fail
            go_roundg (100 - (k + 1))
            case measure => have := HG.out; omega
            case rel => exact ⟨k + 1, by omega, rfl, by go_num, ev, btL ev le, ps.map tkP, m, pa, g, c, ra, rg, rc, HC6.out⟩
      by_cases k1 : kd = 1
      · subst k1
        have HBd : Hid (Below w.heap.size w W1.drew) := HBL.out.drew
        have HCd : Hid (PC w n w.heap.size rb ev le ps m pa g c ra rg rc W1.drew) := HC1.out.below (w' := W1.drew) ⟨rfl, rfl, rfl, Nat.le_refl _, fun _ _ => rfl⟩
        have hwd : W1.drew.heap.size = W1.heap.size := rfl
        by_cases hok : heOk id rem l
        · have HOK := Lib.hid hok
          have hsx : 0 ≤ heS id rem l := by unfold heS; split <;> omega
          have HRC := Lib.hid (recvH_yes w.heap.size g n ev le pa m c ps id rem l fa fc W1.drew HCd.out.1 HCd.out.2.1 hn0 hm4 hll (HB0.out.below HBd.out) hok)
          have RRC : Hid (∀ W : World, RHrt W rb n ev le (.slice ra m rc) → RPrAt W ra m rg ps → Bytes W fa l → Calls Try.prog 42 #[.pointer (some ⟨rb, 0, none⟩), .agg #[.int .i64 id, .bool rem, .slice fa l.length fc]] W fun e w' => ∃ nv, e = .returned nv ∧ w'.ownsRow W.heap.size 100 2 nv (rcN (heN id rem l) ps).length (nvals (rcN (heN id rem l) ps)) ∧
            RHrt w' rb n ev le (.slice ra m rc) ∧ RPrAt w' ra m rg (ps.map (rcP (heN id rem l) (heS id rem l))) ∧ Upd (fun k => m ≠ 0 ∧ k = rg) W w') := fun W h1 h2 h3 => rrecv_yes rb rg n ev le ra m rc ps id rem l fa fc W h1 h2 hm4 hll h3 hok (fun p hp ht => ((HL.out.2.2.2.2 p hp).2 ht).2)
          have htl : ((rcN (heN id rem l) ps).length : Int) ≤ 1000 := by
            have h1 := rcN_len (heN id rem l) ps ps.length
            rw [List.take_length] at h1
            have h2 := HP.out.1
            have h3 := HL.out.2.2.2.1
            omega
          have HL2 := Lib.hid (HL.out.recv (heN id rem l) (heS id rem l) hsx)
          generalize heN id rem l = nd at *
          generalize heS id rem l = sx at *
          generalize rcN nd ps = news at *
          clear hok
          go_wp2_with fail
          go_region_held3 (fun w' => w'.cell? ⟨B, 2, none⟩ = some (.int .i64 id) ∧ w'.cell? ⟨B, 3, none⟩ = some (.bool rem) ∧ w'.cell? ⟨B, 4, none⟩ = some (.slice fa l.length fc))
            (first
              | go_keep
              | (go_split_ands; exact ⟨hu5.cell_some (by first | assumption | (simp [*]; done)) (fun h => by have := hbx3.resolve_left h.1; have h2 := h.2; simp only at h2; omega), hu5.cell_some (by first | assumption | (simp [*]; done)) (fun h => by have := hbx3.resolve_left h.1; have h2 := h.2; simp only at h2; omega), hu5.cell_some (by first | assumption | (simp [*]; done)) (fun h => by have := hbx3.resolve_left h.1; have h2 := h.2; simp only at h2; omega)⟩)
              | (go_split_ands; exact ⟨hu6.cell_some (by first | assumption | (simp [*]; done)) (fun h => by have := hbx3.resolve_left h.1; have h2 := h.2; simp only at h2; omega), hu6.cell_some (by first | assumption | (simp [*]; done)) (fun h => by have := hbx3.resolve_left h.1; have h2 := h.2; simp only at h2; omega), hu6.cell_some (by first | assumption | (simp [*]; done)) (fun h => by have := hbx3.resolve_left h.1; have h2 := h.2; simp only at h2; omega)⟩)
              | (go_split_ands; exact ⟨(hb7.cell (by show B < w6.heap.size; have := hu5.size; have := hu6.size; omega)).trans (by first | assumption | (simp [*]; done)), (hb7.cell (by show B < w6.heap.size; have := hu5.size; have := hu6.size; omega)).trans (by first | assumption | (simp [*]; done)), (hb7.cell (by show B < w6.heap.size; have := hu5.size; have := hu6.size; omega)).trans (by first | assumption | (simp [*]; done))⟩))
            (first
              | (go_at_call 14; refine HRC.out.mono ?_; rintro e w5 ⟨nv5, rfl, ho5, hH5, hP5, hu5⟩; obtain ⟨a5, c5, rfl, hN5⟩ := newsAt_of ho5)
              | (go_at_call 42; refine (RRC.out w5 (HCd.out.mine hu5 (fun k h => .inr h)).1 (HCd.out.mine hu5 (fun k h => .inr h)).2.1 (HB0.out.below (HCd.out.mine hu5 (fun k h => .inr h)).2.2)).mono ?_; rintro e w6 ⟨nv6, rfl, ho6, hR6, hRP6, hu6⟩; obtain ⟨a6, c6, rfl, hN6⟩ := newsAt_of ho6)
              | (go_at_call 40; refine (hsame_any news a5 a6 c5 c6 w6 htl (by
                    obtain ⟨x1, x2, x3, x4⟩ := newsAt_of (own_keep ho5 hu6 (fun k hk h => by have := hbx3.resolve_left h.1; omega))
                    cases x3
                    exact x4) hN6).mono ?_; rintro e w7 ⟨rfl, hb7⟩))
          have HC5 := Lib.hid ((HCd.out.step hu5 (fun k h => .inr h) hH5 hP5 hu6 (fun k h => .inr h) hR6 hRP6 HL2.out HLO.out.2.2 (HAP.out.2.imp (fun x => x) (fun x e => x.2.2.1 e.2.symm))).below hb7)
          clear hH5 hu5 hR6 hu6 ho5 ho6 hP5 hRP6 hN5 hN6 hb7 HRC RRC HCd
          go_wp2_with fail
          go_roundg (100 - (k + 1))
          case measure => have := HG.out; omega
          case rel => exact ⟨k + 1, by omega, rfl, by go_num, ev, le, ps.map (rcP nd sx), m, pa, g, c, ra, rg, rc, HC5.out⟩
        · have HRC := Lib.hid (recvH_no (some ⟨w.heap.size, 0, none⟩) id rem l fa fc W1.drew hll (HB0.out.below HBd.out) hok)
          have RRC : Hid (∀ W : World, RHrt W rb n ev le (.slice ra m rc) → Bytes W fa l → Calls Try.prog 42 #[.pointer (some ⟨rb, 0, none⟩), .agg #[.int .i64 id, .bool rem, .slice fa l.length fc]] W fun e w' => e = .returned (.slice none 0 0) ∧ Below W.heap.size W w') := fun W h1 h3 => rrecv_no rb rg n ev le ra m rc ps id rem l fa fc W h1 hll h3 hok
          have SN : Hid (∀ W : World, Calls Try.prog 40 #[.slice none 0 0, .slice none 0 0] W fun e w' => e = .returned (.bool true) ∧ Below W.heap.size W w') := fun W => hsame_any [] none none 0 0 W (by simp) (.inl rfl) (.inl rfl)
          clear hok
          go_wp2_with fail
          go_region_held3 (fun w' => w'.cell? ⟨B, 2, none⟩ = some (.int .i64 id) ∧ w'.cell? ⟨B, 3, none⟩ = some (.bool rem) ∧ w'.cell? ⟨B, 4, none⟩ = some (.slice fa l.length fc))
            (first
              | go_keep
              | (go_split_ands; exact ⟨(hb5.cell (by show B < W1.heap.size; omega)).trans (by first | assumption | (simp [*]; done)), (hb5.cell (by show B < W1.heap.size; omega)).trans (by first | assumption | (simp [*]; done)), (hb5.cell (by show B < W1.heap.size; omega)).trans (by first | assumption | (simp [*]; done))⟩)
              | (go_split_ands; exact ⟨(hb6.cell (by show B < w5.heap.size; have := hb5.size; omega)).trans (by first | assumption | (simp [*]; done)), (hb6.cell (by show B < w5.heap.size; have := hb5.size; omega)).trans (by first | assumption | (simp [*]; done)), (hb6.cell (by show B < w5.heap.size; have := hb5.size; omega)).trans (by first | assumption | (simp [*]; done))⟩)
              | (go_split_ands; exact ⟨(hb7.cell (by show B < w6.heap.size; have := hb5.size; have := hb6.size; omega)).trans (by first | assumption | (simp [*]; done)), (hb7.cell (by show B < w6.heap.size; have := hb5.size; have := hb6.size; omega)).trans (by first | assumption | (simp [*]; done)), (hb7.cell (by show B < w6.heap.size; have := hb5.size; have := hb6.size; omega)).trans (by first | assumption | (simp [*]; done))⟩))
            (first
              | (go_at_call 14; refine HRC.out.mono ?_; rintro e w5 ⟨rfl, hb5⟩)
              | (go_at_call 42; refine (RRC.out w5 (bkeep' hb5 HCd.out.2.2.1) (HB0.out.below (HBd.out.trans (hb5.mono HBd.out.size)))).mono ?_; rintro e w6 ⟨rfl, hb6⟩)
              | (go_at_call 40; refine (SN.out w6).mono ?_; rintro e w7 ⟨rfl, hb7⟩))
          have HC5 := Lib.hid (((HCd.out.below hb5).below hb6).below hb7)
          clear hb5 hb6 hb7 HRC RRC SN HCd
          go_wp2_with fail
          go_roundg (100 - (k + 1))
          case measure => have := HG.out; omega
          case rel => exact ⟨k + 1, by omega, rfl, by go_num, ev, le, ps, m, pa, g, c, ra, rg, rc, HC5.out⟩
      by_cases k2 : kd = 2
      · subst k2
        have p1 : W1.drew.cell? ⟨B, 1, none⟩ = some (.int .i64 N) := o1
        by_cases ht : 0 ≤ N ∧ N ≤ 65535
        · have HT := Lib.hid ht
          clear ht
          go_wp2_with fail
          go_region_held3 (fun w' => w'.cell? ⟨B, 1, none⟩ = some (.int .i64 N))
            (first | go_keep | (exact hu5.cell_some (by first | assumption | (simp [*]; done)) (by show ¬ B = w.heap.size; omega)) | (exact hu6.cell_some (by first | assumption | (simp [*]; done)) (by show ¬ B = rb; omega)))
            (first
              | (go_at_call 18; refine (period_ok w.heap.size n ev le (.slice pa m c) N _ ?_ hn0 HT.out).mono ?_; (first | exact HH.out | exact hu6.block_some HH.out (fun e => HAP.out.1 e.symm)); rintro e w5 ⟨rfl, hH5, hu5⟩)
              | (go_at_call 43; refine (rperiod_ok rb n ev le (.slice ra m rc) N _ ?_ HT.out).mono ?_; (first | exact HRH.out | exact hu5.block_some HRH.out (fun e => HAP.out.1 e)); rintro e w6 ⟨rfl, hR6, hu6⟩))
          have HC5 := Lib.hid (PC.step (HC1.out.below (w' := W1.drew) ⟨rfl, rfl, rfl, Nat.le_refl _, fun _ _ => rfl⟩) hu5 (fun k e => .inl e) hH5 (HP.out.upd (w := W1.drew) hu5 (HAP.out.2.imp (fun x => x) (fun x => x.2.2.2.1))) hu6 (fun k e => .inl e) hR6
            ((HRP.out.upd (w := W1.drew) hu5 (HAP.out.2.imp (fun x => x) (fun x => x.2.1))).upd hu6 (HAP.out.2.imp (fun x => x) (fun x => x.2.2.2.2))) (HL.out.period N HT.out) HLO.out.2.2 (HAP.out.2.imp (fun x => x) (fun x e => x.1 e.symm)))
          clear hH5 hu5 hR6 hu6
          go_wp2_with fail
          go_roundg (100 - (k + 1))
          case measure => have := HG.out; omega
          case rel => exact ⟨k + 1, by omega, rfl, by go_num, N, N, ps, m, pa, g, c, ra, rg, rc, HC5.out⟩
        · have HT := Lib.hid ht
          clear ht
          go_wp2_with fail
          go_region_held3 (fun w' => w'.cell? ⟨B, 1, none⟩ = some (.int .i64 N))
            (first | go_keep | assumption)
            (first
              | (go_at_call 18; refine (period_no w.heap.size n ev le (.slice pa m c) N _ ?_ hn0 HT.out).mono ?_; exact HH.out; rintro e w5 ⟨rfl, rfl⟩)
              | (go_at_call 43; refine (rperiod_no _ N _ HT.out).mono ?_; rintro e w6 ⟨rfl, rfl⟩))
          have HC5 := Lib.hid (HC1.out.below (w' := W1.drew) ⟨rfl, rfl, rfl, Nat.le_refl _, fun _ _ => rfl⟩)
          go_wp2_with fail
          go_roundg (100 - (k + 1))
          case measure => have := HG.out; omega
          case rel => exact ⟨k + 1, by omega, rfl, by go_num, ev, le, ps, m, pa, g, c, ra, rg, rc, HC5.out⟩
      by_cases k3 : kd = 3
      · subst k3
        have HBd : Hid (Below w.heap.size w W1.drew) := HBL.out.drew
        have HCd : Hid (PC w n w.heap.size rb ev le ps m pa g c ra rg rc W1.drew) := HC1.out.below (w' := W1.drew) ⟨rfl, rfl, rfl, Nat.le_refl _, fun _ _ => rfl⟩
        by_cases hE : wrE us = 0
        · have HE := Lib.hid hE
          have RP : Hid (∀ W : World, RHrt W rb n ev le (.slice ra m rc) → U32s W wa us → Calls Try.prog 44 #[.pointer (some ⟨rb, 0, none⟩), .slice wa us.length wc] W fun e w' => e = .returned (.int .i64 0) ∧ Upd (· = rb) W w' ∧ ∃ v, RHrt w' rb n ev le v ∧ w'.ownsRow W.heap.size 99 4 v (mkP us).length (rvals (mkP us))) := by
            intro W h1 h2
            refine (rpeers_any rb n ev le ra m rc us wa wc W h1 hl2 h2).mono ?_
            rintro e w' ⟨rfl, hu, h⟩
            rw [hE]
            refine ⟨rfl, hu, ?_⟩
            rcases h with ⟨h, _⟩ | ⟨_, h⟩
            · exact absurd hE h
            · exact h
          clear hE
          go_wp2_with fail
          go_region_held3 (fun w' => w'.cell? ⟨B, 5, none⟩ = some (.slice wa us.length wc))
            (first | go_keep | (exact hu5.cell_some (by first | assumption | (simp [*]; done)) (by show ¬ B = w.heap.size; omega)) | (exact hu6.cell_some (by first | assumption | (simp [*]; done)) (by show ¬ B = rb; omega)))
            (first
              | (go_at_call 13; refine (peers_ok w.heap.size n ev le (.slice pa m c) ⟨_, _, _, rfl⟩ us wa wc W1.drew HCd.out.1 hn0 hl2 (HU0.out.below HBd.out) HE.out).mono ?_; rintro e w5 ⟨rfl, v5, hH5, ho5, hu5⟩)
              | (go_at_call 44; refine (RP.out w5 (hu5.block_some HRH.out (fun e => HAP.out.1 e)) (HU0.out.below (HBd.out.trans (hu5.toBelow HBd.out.size (fun i hi e => by omega))))).mono ?_; rintro e w6 ⟨rfl, hu6, v6, hR6, ho6⟩))
          obtain ⟨a5, c5, g5, rfl, hP5, hge5⟩ := PrAt.of_own (n := 0) ho5
          obtain ⟨a6, c6, g6, rfl, hP6, hge6⟩ := RPrAt.of_own (n := 0) ho6
          have hbs := HBd.out.size
          have hs5 := hu5.size
          have hwd : W1.drew.heap.size = W1.heap.size := rfl
          have HC5 := Lib.hid (HCd.out.step hu5 (fun k e => .inl e) hH5 hP5 hu6 (fun k e => .inl e) hR6 hP6 (HL.out.peers us HE.out) (by omega) (hge5.imp (fun x => x) (fun x e => by omega)))
          clear hH5 hu5 hR6 hu6 ho5 ho6 hP5 hP6 RP HCd
          go_wp2_with fail
          go_roundg (100 - (k + 1))
          case measure => have := HG.out; omega
          case rel => exact ⟨k + 1, by omega, rfl, by go_num, ev, le, mkP us, (mkP us).length, a5, g5, c5, a6, g6, c6, HC5.out⟩
        · have HE := Lib.hid hE
          have RP : Hid (∀ W : World, RHrt W rb n ev le (.slice ra m rc) → U32s W wa us → Calls Try.prog 44 #[.pointer (some ⟨rb, 0, none⟩), .slice wa us.length wc] W fun e w' => e = .returned (.int .i64 (wrE us)) ∧ Upd (· = rb) W w' ∧ RHrt w' rb n ev le (.slice ra m rc)) := by
            intro W h1 h2
            refine (rpeers_any rb n ev le ra m rc us wa wc W h1 hl2 h2).mono ?_
            rintro e w' ⟨rfl, hu, h⟩
            refine ⟨rfl, hu, ?_⟩
            rcases h with ⟨_, h⟩ | ⟨h, _⟩
            · exact h
            · exact absurd h hE
          have HP : Hid (Calls Try.prog 13 #[.pointer (some ⟨w.heap.size, 0, none⟩), .slice wa us.length wc] W1.drew fun e w' => e = .returned (.int .i64 (wrE us)) ∧ Below W1.drew.heap.size W1.drew w') := peers_no w.heap.size n ev le (.slice pa m c) us wa wc W1.drew HCd.out.1 hn0 hl2 (HU0.out.below HBd.out) hE
          clear hE HE
          generalize wrE us = x at *
          go_wp2_with fail
          go_region_held3 (fun w' => w'.cell? ⟨B, 5, none⟩ = some (.slice wa us.length wc))
            (first | go_keep | (exact (hb5.cell (by show B < W1.heap.size; omega)).trans (by first | assumption | (simp [*]; done))) | (exact hu6.cell_some (by first | assumption | (simp [*]; done)) (by show ¬ B = rb; omega)))
            (first
              | (go_at_call 13; refine HP.out.mono ?_; rintro e w5 ⟨rfl, hb5⟩)
              | (go_at_call 44; refine (RP.out w5 (bkeep' hb5 HCd.out.2.2.1) (HU0.out.below (HBd.out.trans (hb5.mono HBd.out.size)))).mono ?_; rintro e w6 ⟨rfl, hu6, hR6⟩))
          have HC5a := HCd.out.below hb5
          have HC5 := Lib.hid (HC5a.step (Upd.refl (fun _ => False) w5) (fun k e => e.elim) HC5a.1 HC5a.2.1 hu6 (fun k e => .inl e) hR6 (HC5a.2.2.2.1.upd hu6 (HAP.out.2.imp (fun x => x) (fun x => x.2.2.2.2))) HL.out HLO.out.2.2 (HAP.out.2.imp (fun x => x) (fun x e => x.1 e.symm)))
          clear hb5 hu6 hR6 HC5a RP HCd
          go_wp2_with fail
          go_roundg (100 - (k + 1))
          case measure => have := HG.out; omega
          case rel => exact ⟨k + 1, by omega, rfl, by go_num, ev, le, ps, m, pa, g, c, ra, rg, rc, HC5.out⟩
      have kb0 : (kd == 0) = false := by rw [beq_eq_false_iff_ne]; exact k0
      have kb1 : (kd == 1) = false := by rw [beq_eq_false_iff_ne]; exact k1
      have kb2 : (kd == 2) = false := by rw [beq_eq_false_iff_ne]; exact k2
      have kb3 : (kd == 3) = false := by rw [beq_eq_false_iff_ne]; exact k3
      clear k0 k1 k2 k3
      go_wp2_with fail
      refine (state_any w.heap.size g n ev le pa m c ps N W1 HH.out HP.out hn0 hm4).mono ?_
      rintro e w2 ⟨rfl, hb2⟩
      have HC2 := Lib.hid (HC1.out.below hb2)
      have hX2 : w2.heap[B]? = some _ := bkeep' hb2 HX.out
      have p1 : w2.cell? ⟨B, 1, none⟩ = some (.int .i64 N) := by simp [World.cell?, hX2]
      clear hb2 hX2
      go_wp2_with fail
      refine (rstate_any rb rg n ev le ra m rc ps N w2 HC2.out.2.2.1 HC2.out.2.2.2.1 hm4 (fun p hp ht => ((HL.out.2.2.2.2 p hp).2 ht).2)).mono ?_
      rintro e w3 ⟨rfl, rfl⟩
      generalize stN ps N = s1 at *
      generalize stB ps N = s2 at *
      go_wp2_with fail
      go_roundg (100 - (k + 1))
      case measure => have := HG.out; omega
      case rel => exact ⟨k + 1, by omega, rfl, by go_num, ev, le, ps, m, pa, g, c, ra, rg, rc, HC2.out⟩
    · have key : ¬ ((k : Int) < (len : Int)) ∨ ¬ ((k : Int) < 100) := by omega
      clear hk1
      rcases key with d1 | d1
      · have d2 : (len : Int) ≤ (k : Int) := by omega
        clear d1
        go_wp2_with fail
        refine (known26 _).mono ?_
        rintro e w5 ⟨rfl, hb5⟩
        go_wp2_with fail
        go_ret
        exact ⟨rfl, HC.out.2.2.2.2.2.2.trans (hb5.mono hwl)⟩
      · obtain rfl : k = 100 := by omega
        clear d1
        by_cases d2 : (100 : Int) < (len : Int)
        · go_wp2_with fail
          refine (known26 _).mono ?_
          rintro e w5 ⟨rfl, hb5⟩
          go_wp2_with fail
          go_ret
          exact ⟨rfl, HC.out.2.2.2.2.2.2.trans (hb5.mono hwl)⟩
        · have d3 : (len : Int) ≤ 100 := by omega
          clear d2
          go_wp2_with fail
          refine (known26 _).mono ?_
          rintro e w5 ⟨rfl, hb5⟩
          go_wp2_with fail
          go_ret
          exact ⟨rfl, HC.out.2.2.2.2.2.2.trans (hb5.mono hwl)⟩

section
open Go.ChangeShapes Go.WideShapes Go.ChangeAt
variable {H : Type} {enc : TypeId × Value → H} {w : World} {base : Nat}
set_option maxRecDepth 100000 in
theorem hplays_frame (a0 : Int) (v1 : Value) (w : World) {d1 : DataW H} {p1 : List MemPlace} (w0 : (Lit.int .i64 a0).wf = true)
    (ok1 : Value.okWide Try.prog w .any base 64 v1) (k1 : DataW.Trod enc Try.prog w 0 (fun _ => true) true 64 v1 d1 p1) :
    Calls Try.prog 11 #[.int .i64 a0, v1] w fun e w' => e = .returned (.bool true) ∧ Below w.heap.size w w' := by
  obtain ⟨a, n, cap, rfl, hn, hF⟩ := open_hops ok1 k1
  by_cases h : 1 ≤ a0 ∧ a0 ≤ 127
  · exact hplays_yes a0 a n cap w hn hF h
  · exact hplays_no a0 a n cap w hn h
end
end Go.Proofs.Ytpnnmcicpjebmaa
