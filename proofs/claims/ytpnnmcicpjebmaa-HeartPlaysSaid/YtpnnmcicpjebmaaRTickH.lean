/-
  CONTRACT of the reference's Tick.
-/
import Derived.Test.YtpnnmcicpjebmaaRefH
import Derived.Test.YtpnnmcicpjebmaaTickH
import Derived.Deep.CutRange
set_option linter.unusedSimpArgs false
set_option linter.unusedVariables false
namespace Go.Proofs.Ytpnnmcicpjebmaa
open Go.RowKit
attribute [local go_sem] Oper.semAt_some

theorem info32 : (Try.prog.info? 32).map (fun i => (i.zero, i.size, i.bytes)) = some (some (.agg #[.int .i64 0, .bool false, .slice none 0 0]), 3, 40) := by kernel_rfl
theorem info100 : (Try.prog.info? 100).map (fun i => (i.zero, i.size, i.bytes)) = some (some (.agg #[.int .i64 0, .int .i64 0]), 2, 16) := by kernel_rfl

/-- A heartbeat's frame in block g, its byte in block d. -/
def FB (w : World) (g d : Nat) (n st : Int) : Prop :=
  (∃ cur : Array Value, w.heap[g]? = some (.cells cur 32 (0, 0)) ∧ cur[0]? = some (.int .i64 (1792 + n)) ∧ cur[1]? = some (.bool false) ∧ cur[2]? = some (.slice (some ⟨d, 0, none⟩) 1 1)) ∧ w.heap[d]? = some (.cells #[.int .u8 st] 5 (0, 0))
theorem FB.upd {S : Nat → Prop} {w w' : World} {g d : Nat} {n st : Int} (h : FB w g d n st) (hu : Upd S w w') (hg : ¬ S g) (hd : ¬ S d) : FB w' g d n st := by
  obtain ⟨⟨cur, h1, h2⟩, h3⟩ := h
  exact ⟨⟨cur, hu.block_some h1 hg, h2⟩, hu.block_some h3 hd⟩
def ROut (base : Nat) (w' : World) (n ev le st : Int) (out : Value) : Prop :=
  (btDue ev le st ∧ ∃ g d cap, out = .slice (some ⟨g, 0, none⟩) 1 cap ∧ base ≤ g ∧ base ≤ d ∧ FB w' g d n st) ∨ (¬ btDue ev le st ∧ out = .slice none 0 0)
theorem ROut.upd {base : Nat} {w1 W : World} {n ev le st : Int} {out : Value} {a : Option Addr} {m g : Nat} {ps : List Pr} (h : ROut base w1 n ev le st out) (hP : RPrAt w1 a m g ps) (hu : Upd (GS m g) w1 W) : ROut base W n ev le st out := by
  rcases h with ⟨h1, g', d, cap, rfl, hg, hd, hf⟩ | h
  · refine .inl ⟨h1, g', d, cap, rfl, hg, hd, hf.upd hu (fun hs => ?_) (fun hs => ?_)⟩
    · obtain ⟨cur, hc, _⟩ := hf.1
      rcases hP.ne hc (by decide) with h | h
      · exact hs.1 h
      · exact h hs.2.symm
    · rcases hP.ne hf.2 (by decide) with h | h
      · exact hs.1 h
      · exact h hs.2.symm
  · exact .inr h
theorem row_one3 {w : World} {base : Nat} {v x y z : Value} (h : w.ownsRow base 32 3 v 1 [x, y, z]) :
    ∃ g cap, ∃ cur : Array Value, v = .slice (some ⟨g, 0, none⟩) 1 cap ∧ base ≤ g ∧ w.heap[g]? = some (.cells cur 32 (0, 0)) ∧ cur[0]? = some x ∧ cur[1]? = some y ∧ cur[2]? = some z := by
  rcases h.2 with ⟨_, h0⟩ | ⟨g, cap', cur, e, hb, hh, h1, h2, h3, h4⟩
  · cases h0
  · have h5 : ∀ i : Nat, i < 3 → cur[i]? = [x, y, z][i]? := by
      intro i hi
      have := congrArg (fun l => l[i]?) h4
      simp only [List.getElem?_take_of_lt (show i < 1 * 3 by omega)] at this
      simpa using this
    exact ⟨g, cap', cur, e, hb, hh, h5 0 (by omega), h5 1 (by omega), h5 2 (by omega)⟩
theorem rnews_shape {W : World} {base n : Nat} {v : Value} {xs : List Value} (h : W.ownsRow base 100 2 v n xs) : ∃ a cap, v = .slice a n cap := by
  rcases h.2 with ⟨rfl, rfl⟩ | ⟨g, cap, cur, rfl, _⟩
  · exact ⟨none, 0, rfl⟩
  · exact ⟨_, cap, rfl⟩

set_option maxRecDepth 100000 in
set_option maxHeartbeats 4000000 in
theorem rtick_any (b g : Nat) (n ev le : Int) (a : Option Addr) (m c : Nat) (ps : List Pr) (st : Int) (w : World) (hH : RHrt w b n ev le (.slice a m c)) (hP : RPrAt w a m g ps) (hn : 1 ≤ n ∧ n ≤ 127) (hev : 0 ≤ ev ∧ ev ≤ 65535) (hle : ev ≠ 0 → 1 ≤ le ∧ le ≤ 65535) (hm : (m : Int) ≤ 1000)
    (hps : ∀ p ∈ ps, p.there = true → 1 ≤ p.left ∧ p.left ≤ 65535 ∧ 0 ≤ p.state) :
    Calls Try.prog 38 #[.pointer (some ⟨b, 0, none⟩), .int .i64 st] w fun e w' => ∃ out nv, e = .returned (.tuple #[out, nv]) ∧ ROut w.heap.size w' n ev le st out ∧ w'.ownsRow w.heap.size 100 2 nv (tkN ps).length (nvals (tkN ps)) ∧
      RHrt w' b n ev (btL ev le) (.slice a m c) ∧ RPrAt w' a m g (ps.map tkP) ∧ Upd (fun k => k = b ∨ (m ≠ 0 ∧ k = g)) w w' := by
  have hlen : ps.length = m := hP.1
  have hgb := hP.ne hH (by decide)
  have hbw := hH.lt
  have hgw : m = 0 ∨ g < w.heap.size := by
    by_cases h0 : m = 0
    · exact .inl h0
    · exact .inr (hP.free (by omega) 0).2
  have HH := Lib.hid hH
  have HP := Lib.hid hP
  have HPS := Lib.hid hps
  obtain ⟨c0, c1, c2, c3⟩ := hH.cells
  have f2 := free_of hH 2
  clear hH hP hps
  go_enter Try.func38, Try.ntmps38
  go_upto_if 15 with fail
  go_cut [6] from 8 (fun o wx => ROut w.heap.size wx n ev le st o ∧ RHrt wx b n ev (btL ev le) (.slice a m c) ∧ RPrAt wx a m g ps ∧ Upd (· = b) w wx)
  case first =>
    by_cases c1' : ev = 0
    · have r : btL ev le = le := by unfold btL; rw [if_pos c1']
      have hnd : ¬ btDue ev le st := fun k => k.1 c1'
      have d1 : decide (0 < ev) = false := decide_eq_false (by omega)
      have hd : ¬ 0 < ev := by omega
      have HX := Lib.hid (And.intro r hnd)
      clear r hnd c1'
      go_wp2_with fail
      go_meet
      case rel => exact ⟨.inr ⟨HX.out.2, rfl⟩, by rw [HX.out.1]; exact HH.out, HP.out, Upd.refl _ _⟩
    · obtain ⟨hle1, hle2⟩ := hle c1'
      have d1 : decide (0 < ev) = true := decide_eq_true (by omega)
      have hd : 0 < ev := by omega
      by_cases c2' : 1 < le
      · have r : btL ev le = le - 1 := by unfold btL; rw [if_neg c1', if_pos c2']
        have hnd : ¬ btDue ev le st := fun k => k.2.1 c2'
        have hz : (le - 1 == 0) = false := by rw [beq_eq_false_iff_ne]; omega
        have HX := Lib.hid (And.intro r hnd)
        have HS := Lib.hid (hset HH.out 2 (.int .i64 (le - 1)))
        have HU := Lib.hid ((Upd.refl (· = b) w).setCell (p := ⟨b, 2, none⟩) (fun _ => rfl) (.int .i64 (le - 1)))
        clear r hnd c1' c2' hle
        go_wp2_with fail
        go_meet
        case rel => exact ⟨.inr ⟨HX.out.2, rfl⟩, by rw [HX.out.1]; exact HS.out, HP.out.upd HU.out hgb, HU.out⟩
      · obtain rfl : le = 1 := by omega
        have r : btL ev 1 = ev := by unfold btL; rw [if_neg c1', if_neg (by omega)]
        have HS := Lib.hid (show RHrt ((w.setCell ⟨b, 2, none⟩ (.int .i64 0)).setCell ⟨b, 2, none⟩ (.int .i64 ev)) b n ev ev (.slice a m c) from hset (hset HH.out 2 (.int .i64 0)) 2 (.int .i64 ev))
        have HU := Lib.hid (((Upd.refl (· = b) w).setCell (p := ⟨b, 2, none⟩) (fun _ => rfl) (.int .i64 0)).setCell (p := ⟨b, 2, none⟩) (fun _ => rfl) (.int .i64 ev))
        have HPU := Lib.hid (HP.out.upd HU.out hgb)
        by_cases hsv : svB st 5
        · have hdue : btDue ev 1 st := ⟨c1', by omega, hsv⟩
          have hok : beatOk n st := ⟨hn.1, hn.2, (sv5 hsv).1⟩
          have HX := Lib.hid (And.intro r (And.intro hdue hok))
          have HSV := Lib.hid (decide_eq_true hsv)
          clear r hdue hok hsv c1' c2' hle
          go_wp2_with fail
          refine (rsv_any st 5 _).mono ?_
          rintro e w3 ⟨rfl, rfl⟩
          rw [HSV.out]
          obtain ⟨s0, s1, s2, s3⟩ := HS.out.cells
          go_wp2_with fail
          refine (rbeat_yes n st _ HX.out.2.2).mono ?_
          rintro e w4 ⟨d, rfl, hd0, hD, hb4⟩
          have HS4 := Lib.hid (show RHrt w4 b n ev ev (.slice a m c) from bkeep' hb4 HS.out)
          have HU4 := Lib.hid (HU.out.trans (Upd.ofBelow' (S := fun _ => False) hb4) (fun _ _ h => h.elim))
          have HP4 := Lib.hid (HPU.out.same fun cs hh => bkeep' hb4 hh)
          have HD4 := Lib.hid hD
          have hs4 := hb4.size
          simp at hd0 hs4
          have hdl := lt_of_block hD
          clear hD hb4 HS HU HPU s0 s1 s2 s3
          go_wp2_with fail
          go_meet
          case rel =>
            refine ⟨.inl ⟨HX.out.2.1, w4.heap.size + 1 + 1, d, _, rfl, by omega, hd0, ⟨⟨_, anew _ _ (by simp), ?_, ?_, ?_⟩, akeep _ (akeep _ (akeep _ HD4.out))⟩⟩, ?_, HP4.out.same fun cs hh => akeep _ (akeep _ (akeep _ hh)), (((HU4.out.alloc _).alloc _).alloc _).drew⟩
            · exact (Array.getElem?_append_left (show 0 < 3 by omega)).trans rfl
            · exact (Array.getElem?_append_left (show 1 < 3 by omega)).trans rfl
            · exact (Array.getElem?_append_left (show 2 < 3 by omega)).trans rfl
            · rw [HX.out.1]; exact akeep _ (akeep _ (akeep _ HS4.out))
        · have hnd : ¬ btDue ev 1 st := fun k => hsv k.2.2
          have HX := Lib.hid (And.intro r hnd)
          have HSV := Lib.hid (decide_eq_false hsv)
          clear r hnd hsv c1' c2' hle
          go_wp2_with fail
          refine (rsv_any st 5 _).mono ?_
          rintro e w3 ⟨rfl, rfl⟩
          rw [HSV.out]
          go_wp2_with fail
          go_meet
          case rel => exact ⟨.inr ⟨HX.out.2, rfl⟩, by rw [HX.out.1]; exact HS.out, HPU.out, HU.out⟩
  case rest =>
    obtain ⟨hout, hH1, hP1, hu1⟩ := hcut
    have HOUT := Lib.hid hout
    have HH1 := Lib.hid hH1
    have HP1 := Lib.hid hP1
    have HU1 := Lib.hid hu1
    have s1 := hu1.size
    generalize hole : btL ev le = le1 at *
    have hg1 : m = 0 ∨ g < wc.heap.size := hgw.imp id (fun h => by omega)
    have hb1 : b < wc.heap.size := by omega
    clear hout hH1 hP1 hu1 HH HP c0 c1 c2 c3 f2 hle
    go_wp2_with fail
    go_loopg [7, 10] m (fun gg v i wr => ∃ k : Nat, k ≤ m ∧ gg = m - k ∧ i = .int .i64 k ∧ wr.ownsRow wc.heap.size 100 2 v (tkN (ps.take k)).length (nvals (tkN (ps.take k))) ∧ RHrt wr b n ev le1 (.slice a m c) ∧ RPrAt wr a m g (tkM ps k) ∧ Upd (GS m g) wc wr)
    case atStart => exact ⟨0, by omega, by omega, rfl, by simpa [tkN, nvals] using World.ownsRow_nil wc wc.heap.size 100 2, HH1.out, by simpa [tkM] using HP1.out, Upd.refl _ _⟩
    case round =>
      obtain ⟨k, hk, hgk, rfl, hown, hHk, hPk, hUk⟩ := hrel
      obtain ⟨ao, ac, rfl⟩ := rnews_shape hown
      have HG := Lib.hid hgk
      have HO := Lib.hid hown
      have HHk := Lib.hid hHk
      have HPk := Lib.hid hPk
      have HUk := Lib.hid hUk
      have hwr := hUk.size
      obtain ⟨c0, c1, c2, c3⟩ := hHk.cells
      clear hgk hown hHk hPk hUk c0 c1 c2
      by_cases hkm : k < m
      · have d1 : (k : Int) < (m : Int) := by omega
        have hm0 : m ≠ 0 := by omega
        have hk' : k < ps.length := by omega
        have hpk := tkM_at ps k hk'
        have hmem : ps[k] ∈ ps := List.getElem_mem hk'
        have hset1 := tkM_set ps k hk'
        have hnt := tkN_take ps k hk'
        have hnl := tkN_len ps k
        obtain ⟨p, hpe⟩ : ∃ p, ps[k] = p := ⟨_, rfl⟩
        rw [hpe] at hpk hmem hset1 hnt
        have hbd := HPS.out p hmem
        obtain ⟨q0, q1, q2, q3⟩ := HPk.out.cell hpk
        have hg2 : g < wc.heap.size := hg1.resolve_left hm0
        have hgb2 : ¬ g = b := hgb.resolve_left hm0
        obtain ⟨hfr, hgl⟩ := HPk.out.free (by omega) (k * 4 + 3)
        obtain ⟨hfr2, _⟩ := HPk.out.free (by omega) (k * 4 + 2)
        have hblr := HHk.out.lt
        obtain rfl : a = some ⟨g, 0, none⟩ := by rcases HPk.out.where_ with h | h; (· omega); (· exact h)
        have HK := Lib.hid hpk
        have HST := Lib.hid hset1
        have HNT := Lib.hid hnt
        obtain ⟨pn, pt, pb, pst, pl⟩ := p
        simp only at q0 q1 q3 hbd
        clear hpk hpe hmem hset1 hnt
        cases pb
        · have q2 : wr.cell? ⟨g, k * 4 + 2, none⟩ = some (.int .i64 (-1)) := q2
          go_wp2_with fail
          go_roundg (m - (k + 1))
          case measure => have := HG.out; omega
          case rel =>
            refine ⟨k + 1, by omega, rfl, by go_num, ?_, HHk.out, ?_, HUk.out⟩
            · rw [HNT.out]; simpa using HO.out
            · rw [HST.out, show tkP ⟨pn, pt, false, pst, pl⟩ = ⟨pn, pt, false, pst, pl⟩ from rfl, set_same HK.out]; exact HPk.out
        · obtain ⟨hl1, hl2, hs0⟩ := hbd rfl
          have q2 : wr.cell? ⟨g, k * 4 + 2, none⟩ = some (.int .i64 pst) := q2
          have d2 : decide (pst < 0) = false := decide_eq_false (by omega)
          have d3 : ¬ pst < 0 := by omega
          have hw1 : IntKind.i64.wrap (pl - 1) = pl - 1 := IntWalk.i64_in _ (by omega)
          have hP2 := (HPk.out.set HK.out 3 (.int .i64 (pl - 1)) (q := ⟨pn, pt, true, pst, pl - 1⟩) (by omega) rfl)
          have hO2 := ownsRow_setCell_below HO.out (a := ⟨g, k * 4 + 3, none⟩) (by simp; omega) (.int .i64 (pl - 1))
          have hH2 : RHrt (wr.setCell ⟨g, k * 4 + 3, none⟩ (.int .i64 (pl - 1))) b n ev le1 (.slice (some ⟨g, 0, none⟩) m c) := skeep _ HHk.out (by simp; omega)
          have hU2 := HUk.out.setCell (p := ⟨g, k * 4 + 3, none⟩) (fun _ => ⟨hm0, rfl⟩) (.int .i64 (pl - 1))
          have HP2 := Lib.hid hP2
          have HO2 := Lib.hid hO2
          have HH2 := Lib.hid hH2
          have HU2 := Lib.hid hU2
          clear hbd hP2 hO2 hH2 hU2
          by_cases h1 : pl = 1
          · subst h1
            have hkm2 : k < (tkM ps k).length := (List.getElem?_eq_some_iff.1 HK.out).1
            have hPa := HPk.out.set HK.out 3 (.int .i64 0) (q := ⟨pn, pt, true, pst, 0⟩) (by omega) rfl
            obtain ⟨r0, r1, r2, r3⟩ := hPa.cell (i := k) (p := ⟨pn, pt, true, pst, 0⟩) (by rw [List.getElem?_set_self hkm2])
            have hPb := hPa.set (i := k) (p := ⟨pn, pt, true, pst, 0⟩) (q := ⟨pn, pt, false, pst, 0⟩) (by rw [List.getElem?_set_self hkm2]) 2 (.int .i64 (-1)) (by omega) rfl
            rw [List.set_set] at hPb
            have hOb : ((wr.setCell ⟨g, k * 4 + 3, none⟩ (.int .i64 0)).setCell ⟨g, k * 4 + 2, none⟩ (.int .i64 (-1))).ownsRow wc.heap.size 100 2 (.slice ao (tkN (ps.take k)).length ac) (tkN (ps.take k)).length (nvals (tkN (ps.take k))) := ownsRow_setCell_below (ownsRow_setCell_below HO.out (a := ⟨g, k * 4 + 3, none⟩) (by simp; omega) _) (a := ⟨g, k * 4 + 2, none⟩) (by simp; omega) _
            have hHb : RHrt ((wr.setCell ⟨g, k * 4 + 3, none⟩ (.int .i64 0)).setCell ⟨g, k * 4 + 2, none⟩ (.int .i64 (-1))) b n ev le1 (.slice (some ⟨g, 0, none⟩) m c) := skeep _ (skeep _ HHk.out (by simp; omega)) (by simp; omega)
            have hUb := (HUk.out.setCell (p := ⟨g, k * 4 + 3, none⟩) (fun _ => ⟨hm0, rfl⟩) (.int .i64 0)).setCell (p := ⟨g, k * 4 + 2, none⟩) (fun _ => ⟨hm0, rfl⟩) (.int .i64 (-1))
            obtain ⟨x0, x1, x2, x3⟩ := hPb.cell (i := k) (p := ⟨pn, pt, false, pst, 0⟩) (by rw [List.getElem?_set_self hkm2])
            have HPb := Lib.hid hPb
            have HOb := Lib.hid hOb
            have HHb := Lib.hid hHb
            have HUb := Lib.hid hUb
            have hfr3 : (wr.setCell ⟨g, k * 4 + 3, none⟩ (.int .i64 0)).frozen? ⟨g, k * 4 + 2, none⟩ = false := (hPa.free (by omega) _).1
            have y3 : (wr.setCell ⟨g, k * 4 + 3, none⟩ (.int .i64 0)).drew.cell? ⟨g, k * 4 + 3, none⟩ = some (.int .i64 0) := r3
            clear hPa hPb hOb hHb hUb HP2 HO2 HH2 HU2
            go_wp2_with fail
            go_region
            have y0 : ((wr.setCell ⟨g, k * 4 + 3, none⟩ (.int .i64 0)).setCell ⟨g, k * 4 + 2, none⟩ (.int .i64 (-1))).drew.cell? ⟨g, k * 4, none⟩ = some (.int .i64 pn) := x0
            go_wp2_with (at_builtin; refine wpList_append_any rfl (.tmp 101) (.tmp 111) 70 rfl wc.heap.size 100 (.agg #[.int .i64 0, .int .i64 0]) 2 16 Try.underlying70 info100 rfl (by decide) _ _ _ rfl (HOb.out.drew.alloc _) (some ⟨wr.heap.size, 0, none⟩) 1 1 [.int .i64 2, .int .i64 pn] rfl (fun h => by cases h) (by simp) ?c1 ?c2 ?c3 ?c4 ?c5 ?_)
            case c1 =>
              intro ad e i x hx
              cases e
              have hnew : (((wr.setCell ⟨g, k * 4 + 3, none⟩ (.int .i64 0)).setCell ⟨g, k * 4 + 2, none⟩ (.int .i64 (-1))).alloc (.cells #[.int .i64 2, .int .i64 pn] 100)).heap[wr.heap.size]? = some (.cells #[.int .i64 2, .int .i64 pn] 100 (0, 0)) := anew _ _ (by simp)
              obtain ⟨n0, n1⟩ := cells2 hnew
              rw [Addr.add_lit, Nat.zero_add]
              match i, hx with
              | 0, hx => simp at hx; subst hx; exact n0
              | 1, hx => simp at hx; subst hx; exact n1
            case c2 => intro x hx; simp at hx; rcases hx with rfl | rfl <;> rfl
            case c3 => unfold maxLen; omega
            case c4 => omega
            case c5 => show wc.heap.size ≤ (((wr.setCell ⟨g, k * 4 + 3, none⟩ (.int .i64 0)).setCell ⟨g, k * 4 + 2, none⟩ (.int .i64 (-1))).alloc (.cells #[.int .i64 2, .int .i64 pn] 100)).heap.size; simp; omega
            intro v' w1 hown' hg
            have hlt := HO.out.lt
            have hH3 : RHrt w1 b n ev le1 (.slice (some ⟨g, 0, none⟩) m c) := (hg.block b (by show b < (((wr.setCell ⟨g, k * 4 + 3, none⟩ (.int .i64 0)).setCell ⟨g, k * 4 + 2, none⟩ (.int .i64 (-1))).alloc (.cells #[.int .i64 2, .int .i64 pn] 100)).heap.size; simp; omega) (fun e => by have := (hlt b e.symm).1; omega)).trans (akeep _ HHb.out)
            have hP3 : RPrAt w1 (some ⟨g, 0, none⟩) m g ((tkM ps k).set k ⟨pn, pt, false, pst, 0⟩) := HPb.out.same fun cs hh => (hg.block g (by show g < (((wr.setCell ⟨g, k * 4 + 3, none⟩ (.int .i64 0)).setCell ⟨g, k * 4 + 2, none⟩ (.int .i64 (-1))).alloc (.cells #[.int .i64 2, .int .i64 pn] 100)).heap.size; simp; omega) (fun e => by have := (hlt g e.symm).1; omega)).trans (akeep _ hh)
            have hU3 : Upd (GS m g) wc w1 := ((HUb.out.drew.alloc (.cells #[.int .i64 2, .int .i64 pn] 100))).grown hg (fun i e hi => by have := (hlt i e).1; omega)
            obtain ⟨a', cap', rfl⟩ := rnews_shape hown'
            have HO3 := Lib.hid hown'
            have HH3 := Lib.hid hH3
            have HP3 := Lib.hid hP3
            have HU3 := Lib.hid hU3
            clear hown' hg hH3 hP3 hU3 x0 x1 x2 x3 y0 y3 r0 r1 r2 r3
            go_wp2_with fail
            go_roundg (m - (k + 1))
            case measure => have := HG.out; omega
            case rel =>
              refine ⟨k + 1, by omega, rfl, by go_num, ?_, HH3.out, ?_, HU3.out⟩
              · have e := HNT.out
                simp at e
                rw [e, nvals_snoc, List.length_append]
                exact HO3.out
              · rw [HST.out, show tkP ⟨pn, pt, true, pst, 1⟩ = ⟨pn, pt, false, pst, 0⟩ from rfl]; exact HP3.out
          · have h1b : (pl - 1 == 0) = false := by rw [beq_eq_false_iff_ne]; omega
            have etk : Hid (tkP ⟨pn, pt, true, pst, pl⟩ = ⟨pn, pt, true, pst, pl - 1⟩) := by show tkP _ = _; unfold tkP; simp [h1]
            have H1 := Lib.hid h1
            clear h1
            go_wp2_with fail
            go_region
            go_wp2_with fail
            go_roundg (m - (k + 1))
            case measure => have := HG.out; omega
            case rel =>
              refine ⟨k + 1, by omega, rfl, by go_num, ?_, HH2.out, ?_, HU2.out.drew⟩
              · have e := HNT.out
                simp [H1.out] at e
                rw [e]; exact HO2.out
              · rw [HST.out, etk.out]; exact HP2.out.same fun cs hh => hh
      · obtain rfl : k = m := by omega
        go_wp2_with fail
        go_ret2
        have hown := HO.out
        have hP2 := HPk.out
        rw [List.take_of_length_le (by omega)] at hown
        rw [show tkM ps k = ps.map tkP from by rw [← hlen, tkM_all]] at hP2
        rw [List.take_of_length_le (show ps.length ≤ k by omega)]
        exact ⟨u6, _, rfl, HOUT.out.upd HP1.out HUk.out, own_base hown (by omega), by rw [hole]; exact HHk.out, hP2, (HU1.out.mono (fun i hi e => .inl e)).trans HUk.out (fun i hi e => .inr e)⟩
end Go.Proofs.Ytpnnmcicpjebmaa
