/-
  LAW HeartGone: the walk.
-/
import Derived.Test.YtpnnmcicpjebmaaBeatsH
import Derived.Test.YtpnnmcicpjebmaaState
set_option linter.unusedSimpArgs false
set_option linter.unusedVariables false
namespace Go.Proofs.Ytpnnmcicpjebmaa
open Go.RowKit
attribute [local go_sem] Oper.semAt_some

theorem or16 (n k : Nat) (hn : n ≤ 127) (hk : k ≤ 30) : bits .or .u32 ((n : Int) * 65536) (k : Int) = ((n * 65536 + k : Nat) : Int) := by
  have h := (bits_nat .u32 32 (by decide) (fun n h0 h1 => by rw [IntKind.wrap_u32]; omega) (n * 65536) k (by omega) (by omega)).2
  rw [show ((n * 65536 : Nat) : Int) = (n : Int) * 65536 from by omega] at h
  rw [h, show n * 65536 = 2 ^ 16 * n from by omega, ← Nat.two_pow_add_eq_or_of_lt (show k < 2 ^ 16 by omega) n]

theorem hg_wr {u : Nat} (h : u < 8388608) : wrE [u] = 0 := by
  unfold wrE
  simp [wrR]
  omega
theorem hg_mk {n k : Nat} (hn : 1 ≤ n ∧ n ≤ 127) (hk : 1 ≤ k ∧ k ≤ 30) : mkP [n * 65536 + k] = [⟨n, k, false, 0, 0⟩] := by
  have h : waOk (n * 65536 + k) := by unfold waOk; omega
  unfold mkP
  simp [h]
  omega

theorem hg_word (n k : Nat) (hn : 1 ≤ n ∧ n ≤ 127) (hk : 1 ≤ k ∧ k ≤ 30) : ∃ u : Nat, bits .or .u32 ((n : Int) * 65536) (k : Int) = (u : Int) ∧ wrE [u] = 0 ∧ mkP [u] = [⟨n, k, false, 0, 0⟩] ∧ u < 4294967296 :=
  ⟨_, or16 n k hn.2 hk.2, hg_wr (by omega), hg_mk hn hk, by omega⟩

/-- One peer after j ticks. -/
def pj (n k j : Nat) : Pr := ⟨n, k, decide (j < k), 5, if j < k then ((k - j : Nat) : Int) else 0⟩
theorem pj_tick (n k j : Nat) : [pj n k j].map tkP = [pj n k (j + 1)] := by
  simp only [List.map_cons, List.map_nil, tkP, pj]
  by_cases h : j < k
  · by_cases h1 : j + 1 = k
    · simp [h, show ¬ j + 1 < k by omega, show k - j = 1 by omega]
    · simp [h, show j + 1 < k by omega, show ¬ k - j = 1 by omega]
      rw [if_neg (by omega)]
      simp; omega
  · simp [h, show ¬ j + 1 < k by omega]
theorem pj_news (n k j : Nat) : tkN [pj n k j] = if j + 1 = k then [(2, (n : Int))] else [] := by
  unfold tkN pj
  by_cases h : j < k
  · by_cases h1 : j + 1 = k
    · simp [h, h1, show k - j = 1 by omega]
    · simp [h, h1, show ¬ k - j = 1 by omega]; omega
  · simp [h, show ¬ j + 1 = k by omega]
theorem pj_st (n k j : Nat) : stN [pj n k j] n = (if j < k then 5 else 0) ∧ stB [pj n k j] n = decide (j < k) := by
  unfold stN stB stF pj
  by_cases h : j < k <;> simp [h]
theorem hg_rc (n k : Nat) (tb : Bool) (st le : Int) (hk : 1 ≤ k) : [(⟨n, k, tb, st, le⟩ : Pr)].map (rcP n 5) = [pj n k 0] := by
  simp [rcP, pj, hk, show 0 < k by omega]
theorem hg_rn (n k : Nat) (tb : Bool) (st le : Int) : rcN n [(⟨n, k, tb, st, le⟩ : Pr)] = if tb then [] else [(1, (n : Int))] := by
  cases tb <;> simp [rcN]

/-- What holds between the calls. -/
def GI (w : World) (b g d : Nat) (a : Option Addr) (c : Nat) (n : Nat) (p : Pr) (wr : World) : Prop :=
  Below b w wr ∧ Hrt wr b 9 0 0 (.slice a 1 c) ∧ PrAt wr a 1 g [p] ∧ wr.heap[d + 1]? = some (.cells #[.int .i64 (1792 + (n : Int)), .bool false, .slice (some ⟨d, 0, none⟩) 1 1] 32 (0, 0)) ∧ wr.heap[d]? = some (.cells #[.int .u8 5] 5 (0, 0))

theorem GI.upd {w wr w' : World} {b g d : Nat} {a : Option Addr} {c n : Nat} {p p' : Pr} {S : Nat → Prop} (h : GI w b g d a c n p wr) (hu : Upd S wr w') (hS : ∀ i, S i → b ≤ i ∧ i < d) (hH : Hrt w' b 9 0 0 (.slice a 1 c)) (hP : PrAt w' a 1 g [p']) : GI w b g d a c n p' w' := by
  obtain ⟨h1, h2, h3, h4, h5⟩ := h
  have hb := h2.lt
  exact ⟨h1.trans (hu.toBelow (B := b) (by omega) (fun i hi hs => by have := hS i hs; omega)), hH, hP, hu.block_some h4 (fun hs => by have := hS _ hs; omega), hu.block_some h5 (fun hs => by have := hS _ hs; omega)⟩
theorem GI.below {w wr w' : World} {b g d : Nat} {a : Option Addr} {c n : Nat} {p : Pr} (h : GI w b g d a c n p wr) (hb : Below wr.heap.size wr w') : GI w b g d a c n p w' :=
  ⟨h.1.trans (hb.mono (Nat.le_of_lt h.2.1.lt)), bkeep' hb h.2.1, h.2.2.1.same (fun cs hh => bkeep' hb hh), bkeep' hb h.2.2.2.1, bkeep' hb h.2.2.2.2⟩
theorem GI.drewN {w wr : World} {b g d : Nat} {a : Option Addr} {c n : Nat} {p : Pr} (h : GI w b g d a c n p wr) (i : Nat) : GI w b g d a c n p (wr.drewN i) := h.below ⟨rfl, rfl, rfl, Nat.le_refl _, fun _ _ => rfl⟩

set_option maxRecDepth 100000 in
set_option maxHeartbeats 4000000 in
theorem hgone_walk (n0 p0 : Nat) (l : List UInt8) (a : Option Addr) (cap : Nat) (w : World) (hn0 : n0 < 256) (hp0 : p0 < 256) (hl : (l.length : Int) ≤ 9223372036854775807) (hB : Bytes w a l) :
    Calls Try.prog 3 #[.int .u8 (n0 : Int), .int .u8 (p0 : Int), .slice a l.length cap] w fun e w' => e = .returned (.bool true) ∧ Below w.heap.size w w' := by
  have HBY := Lib.hid hB
  clear hB
  have hn1 : (0 : Int) ≤ (n0 : Int) := by omega
  have hp1 : (0 : Int) ≤ (p0 : Int) := by omega
  have hn2 : (n0 : Int) < 256 := by omega
  have hp2 : (p0 : Int) < 256 := by omega
  go_enter Try.func3, Try.ntmps3
  obtain ⟨n, hn, hn', hn127⟩ : ∃ n : Nat, 1 + (n0 : Int) % 127 = (n : Int) ∧ 1 ≤ n ∧ n ≤ 127 := ⟨1 + n0 % 127, by omega, by omega, by omega⟩
  obtain ⟨k, hk, hk', hk30⟩ : ∃ k : Nat, 1 + (p0 : Int) % 30 = (k : Int) ∧ 1 ≤ k ∧ k ≤ 30 := ⟨1 + p0 % 30, by omega, by omega, by omega⟩
  go_wp2_with fail
  clear hn hk hn1 hp1 hn2 hp2
  refine (hnew_ok 9 _ (by omega)).mono ?_
  rintro e w1 ⟨rfl, rfl⟩
  go_wp2_with fail
  obtain ⟨u, hu0, hwr, hmk, hu4⟩ := hg_word n k ⟨hn', hn127⟩ ⟨hk', hk30⟩
  rw [hu0]
  clear hu0
  refine (peers_ok w.heap.size 9 0 0 (.slice none 0 0) ⟨_, _, _, rfl⟩ [u] (some ⟨w.heap.size + 1, 0, none⟩) 1 _ (akeep _ (heap_alloc_new _ _)) (by omega) (by simp) (u32s_blk1 (u := u) (g := w.heap.size + 1) hu4 (anew _ _ (by simp))) hwr).mono ?_
  rintro e w3 ⟨rfl, v, hH, hown, hU3⟩
  rw [hmk] at hown
  clear hwr hmk hu4
  obtain ⟨pa, pc, g, rfl, hP, hge⟩ := PrAt.of_own (n := 0) hown
  have s3 := hU3.size
  have hg0 : w.heap.size + 2 ≤ g := by rcases hge with h | h; (· simp at h); (· simpa using h)
  have hg1 := (hP.free (by simp) 0).2
  have HB3 := Lib.hid (show Below w.heap.size w w3 from ((((Upd.refl (fun k => w.heap.size ≤ k) w).alloc _).alloc _).trans hU3 (fun i _ h => Nat.le_of_eq h.symm)).toBelow (Nat.le_refl _) (fun i h k => by omega))
  have HH3 := Lib.hid hH
  have HP3 := Lib.hid (show PrAt w3 pa 1 g [⟨n, k, false, 0, 0⟩] from hP)
  have hb3 := hH.lt
  clear hH hP hown hge hU3
  go_wp2_with fail
  have HI : Hid (GI w w.heap.size g w3.heap.size pa pc n ⟨n, k, false, 0, 0⟩ ((w3.alloc (.cells #[.int .u8 5] 5)).alloc (.cells #[.int .i64 (1792 + (n : Int)), .bool false, .slice (some ⟨w3.heap.size, 0, none⟩) 1 1] 32))) :=
    ⟨(HB3.out.alloc (by omega) _).alloc (by simp; omega) _, akeep _ (akeep _ HH3.out), HP3.out.same (fun cs hh => akeep _ (akeep _ hh)), anew _ _ (by simp), akeep _ (heap_alloc_new _ _)⟩
  have hbd : w.heap.size < w3.heap.size := hb3
  clear HB3 HH3 HP3
  generalize hW : ((w3.alloc (.cells #[.int .u8 5] 5)).alloc (.cells #[.int .i64 (1792 + (n : Int)), .bool false, .slice (some ⟨w3.heap.size, 0, none⟩) 1 1] 32)) = w4 at *
  generalize w3.heap.size = d at *
  clear hW
  obtain ⟨m0, hm0, hm1, hm2⟩ : ∃ m0 : Nat, m0 ≤ l.length ∧ m0 ≤ 20 ∧ (m0 = l.length ∨ m0 = 20) := ⟨min l.length 20, by omega, by omega, by omega⟩
  go_loopg [12, 13] m0 (fun gg th i wr => ∃ q : Nat, q ≤ m0 ∧ gg = m0 - q ∧ i = .int .i64 q ∧ ∃ tb st le, th = .bool tb ∧ GI w w.heap.size g d pa pc n ⟨n, k, tb, st, le⟩ wr)
  case atStart => exact ⟨0, by omega, by omega, rfl, false, 0, 0, rfl, HI.out⟩
  case round =>
    obtain ⟨q, hq, hgq, rfl, tb, st, le, rfl, hI⟩ := hrel
    clear HI
    have HG := Lib.hid hgq
    have HI := Lib.hid hI
    clear hgq hI
    by_cases hlast : q < m0
    · have d1 : (q : Int) < (l.length : Int) := by omega
      have d2 : (q : Int) < 20 := by omega
      obtain ⟨f0, f1, f2⟩ := cells3' HI.out.2.2.2.1
      obtain ⟨e1, e2, e3⟩ := he_own (node := n) (u := 5) ⟨by omega, by omega, .inr (.inr (.inl rfl))⟩
      have hb4 := HI.out.2.1.lt
      have hg4 := (HI.out.2.2.1.free (by simp) 0).2
      have hd4 := lt_of_block HI.out.2.2.2.1
      go_upto_region 12 with (go_at_call 14; refine (recvH_yes w.heap.size g 9 0 0 pa 1 pc [⟨n, k, tb, st, le⟩] (1792 + (n : Int)) false [5] (some ⟨d, 0, none⟩) 1 wr HI.out.2.1 HI.out.2.2.1 (by omega) (by omega) (by simp) (bytes_blk1 HI.out.2.2.2.2) (of_decide_eq_true e3)).mono ?_; rintro e w5 ⟨nv, rfl, hown, hH5, hP5, hU5⟩)
      rw [e1] at hown
      rw [e1, e2, show ((UInt8.toNat 5 : Nat) : Int) = 5 from rfl, hg_rc n k tb st le hk'] at hP5
      have HI5 := Lib.hid (HI.out.upd hU5 (fun i hi => ⟨by omega, by omega⟩) hH5 hP5)
      have hw5 := hU5.size
      rw [hg_rn] at hown
      clear hH5 hP5 hU5 e1 e2 e3 HI f0 f1 f2
      obtain ⟨na, nc, rfl⟩ := news_shape hown
      go_cut [14, 89] from 54 to 153 (fun o c wx => c = .bool false ∧ GI w w.heap.size g d pa pc n (pj n k 0) wx)
      case first =>
        cases tb
        · have hown : w5.ownsRow _ 36 2 (.slice na 1 nc) 1 [.int .i64 1, .int .i64 n] := hown
          obtain ⟨gn, hna, hgn, cur, h5, k50, k51⟩ := news_one hown
          subst hna
          have n50 : w5.cell? ⟨gn, 0, none⟩ = some (.int .i64 1) := by simpa [World.cell?, h5] using k50
          have n51 : w5.cell? ⟨gn, 0 + 1, none⟩ = some (.int .i64 n) := by simpa [World.cell?, h5] using k51
          clear hown h5 k50 k51
          go_wp2_with fail
          go_meet
          case rel => exact ⟨rfl, HI5.out⟩
        · have hown : w5.ownsRow _ 36 2 (.slice na 0 nc) 0 [] := hown
          clear hown
          go_wp2_with fail
          go_meet
          case rel => exact ⟨rfl, HI5.out⟩
      case rest =>
        obtain ⟨rfl, hIc⟩ := hcut
        have HIC := Lib.hid hIc
        have hql : q < l.length := by omega
        obtain ⟨lb, off, rfl, hc⟩ : ∃ lb off, a = some ⟨lb, off, none⟩ ∧ ∀ i (h : i < l.length), w.cell? ⟨lb, off + i, none⟩ = some (.int .u8 (l[i].toNat : Int)) := by
          rcases HBY.out with h | h
          · subst h; simp at hql
          · exact h
        have hcq := hc q hql
        have hx1 : l[q].toNat < 256 := l[q].toNat_lt
        generalize l[q].toNat = x at *
        have hlb := World.block_lt_of_cell? w _ hcq
        have HCQ := Lib.hid hcq
        have hr0 : (x : Int).tmod ((k : Int) + 3) = ((x % (k + 3) : Nat) : Int) := rfl
        have hkz : ((k : Int) + 3 == 0) = false := by rw [beq_eq_false_iff_ne]; omega
        have hkz2 : ¬ (k : Int) + 3 = 0 := by omega
        have hwn : IntKind.i64.wrap ((k : Int) + 3) = (k : Int) + 3 := IntWalk.i64_in _ (by omega)
        obtain ⟨m, hm⟩ : ∃ m, x % (k + 3) = m := ⟨_, rfl⟩
        have hm33 : m < 33 := by have := Nat.mod_lt x (show 0 < k + 3 by omega); omega
        rw [hm] at hr0
        have HR := Lib.hid (And.intro hr0 (And.intro hkz (And.intro hkz2 hwn)))
        clear HI5 hIc hown hc hcq hm hr0 hkz hkz2 hwn
        go_wp2_with fail
        go_loopg [12, 15] m (fun gg th i wr2 => ∃ j : Nat, j ≤ m ∧ gg = m - j ∧ i = .int .i64 (j + 1 : Nat) ∧ (∃ tb2, th = .bool tb2 ∧ tb2 = decide (j < k)) ∧ GI w w.heap.size g d pa pc n (pj n k j) wr2)
        case atStart => exact ⟨0, by omega, by omega, rfl, ⟨true, rfl, (decide_eq_true (by omega)).symm⟩, HIC.out⟩
        case round =>
          obtain ⟨j, hj, hgj, rfl, ⟨tb2, rfl, htb⟩, hI2⟩ := hrel
          clear HIC
          have HGJ := Lib.hid hgj
          have HI2 := Lib.hid hI2
          have hcx : wr.cell? ⟨lb, off + q, none⟩ = some (.int .u8 (x : Int)) := by
            rw [← HCQ.out]; exact hI2.1.cell (by show lb < _; exact hlb)
          have hb2 := hI2.2.1.lt
          clear hgj hI2
          by_cases hjm : j < m
          · obtain ⟨hr0, hkz, hkz2, hwn⟩ := HR.out
            have d3 : (j : Int) + 1 ≤ (m : Int) := by omega
            go_upto_region 19 with (go_at_call 15; refine (tickH_any w.heap.size g 9 0 0 pa 1 pc [pj n k j] 127 wr HI2.out.2.1 HI2.out.2.2.1 (by omega) (by omega) (by omega) (by intro p hp hh; simp at hp; subst hp; simp [pj] at hh; simp [pj, hh]; omega)).mono ?_; rintro e w6 ⟨out, nv, rfl, hout, hown, hH6, hP6, hU6⟩)
            rw [pj_tick] at hP6
            rw [show btL 0 0 = 0 by rfl] at hH6
            have HI6 := Lib.hid (HI2.out.upd hU6 (fun i hi => by rcases hi with rfl | ⟨_, rfl⟩ <;> exact ⟨by omega, by omega⟩) hH6 hP6)
            have ST := Lib.hid (state_any w.heap.size g 9 0 0 pa 1 pc [pj n k (j + 1)] n w6 hH6 hP6 (by omega) (by omega))
            have hw6 := hU6.size
            have HTB := Lib.hid htb
            rw [pj_news] at hown
            clear hH6 hP6 hU6 hout HI2 hr0 hkz hkz2 hwn htb
            by_cases hjk : j + 1 = k
            · obtain rfl : tb2 = true := by rw [HTB.out]; exact decide_eq_true (by omega)
              have hjk2 : ((j : Int) + 1 == (k : Int)) = true := by rw [beq_iff_eq]; omega
              have hjk3 : ((j : Int) + 1 != (k : Int)) = false := by simp [bne, hjk2]
              rw [if_pos hjk] at hown
              have hown : w6.ownsRow _ 36 2 nv 1 [.int .i64 2, .int .i64 n] := hown
              obtain ⟨na, nc, rfl⟩ := news_shape hown
              obtain ⟨gn, hna, hgn, cur, h5, k50, k51⟩ := news_one hown
              subst hna
              have n50 : w6.cell? ⟨gn, 0, none⟩ = some (.int .i64 2) := by simpa [World.cell?, h5] using k50
              have n51 : w6.cell? ⟨gn, 0 + 1, none⟩ = some (.int .i64 n) := by simpa [World.cell?, h5] using k51
              have e0 : stN [pj n k (j + 1)] n = 0 := by rw [(pj_st n k (j + 1)).1, if_neg (by omega)]
              have e1 : stB [pj n k (j + 1)] n = false := by rw [(pj_st n k (j + 1)).2, decide_eq_false (by omega)]
              have HJK := Lib.hid hjk
              have hjl : j < k := by omega
              clear hown h5 k50 k51 hjk
              go_wp2_with fail
              refine ST.out.mono ?_
              rintro e w7 ⟨rfl, hb7⟩
              rw [e0, e1]
              have HI7 := Lib.hid (HI6.out.below hb7)
              clear hb7 ST e0 e1 n50 n51
              go_wp2_with fail
              go_roundg (m - (j + 1))
              case measure => have := HGJ.out; omega
              case rel => exact ⟨j + 1, by omega, rfl, by go_num, ⟨false, rfl, (decide_eq_false (by have := HJK.out; omega)).symm⟩, HI7.out⟩
            · have hjk2 : ((j : Int) + 1 == (k : Int)) = false := by rw [beq_eq_false_iff_ne]; omega
              have hjk3 : ((j : Int) + 1 != (k : Int)) = true := by simp [bne, hjk2]
              rw [if_neg hjk] at hown
              have hown : w6.ownsRow _ 36 2 nv 0 [] := hown
              obtain ⟨na, nc, rfl⟩ := news_shape hown
              clear hown
              by_cases hjl : j < k
              · obtain rfl : tb2 = true := by rw [HTB.out]; exact decide_eq_true (by omega)
                have e0 : stN [pj n k (j + 1)] n = 5 := by rw [(pj_st n k (j + 1)).1, if_pos (by omega)]
                have e1 : stB [pj n k (j + 1)] n = true := by rw [(pj_st n k (j + 1)).2, decide_eq_true (by omega)]
                have HJK := Lib.hid hjk
                have HJL := Lib.hid hjl
                clear hjk hjl
                go_wp2_with fail
                refine ST.out.mono ?_
                rintro e w7 ⟨rfl, hb7⟩
                rw [e0, e1]
                have HI7 := Lib.hid (HI6.out.below hb7)
                clear hb7 ST e0 e1
                go_wp2_with fail
                go_roundg (m - (j + 1))
                case measure => have := HGJ.out; omega
                case rel => exact ⟨j + 1, by omega, rfl, by go_num, ⟨true, rfl, (decide_eq_true (by have := HJK.out; have := HJL.out; omega)).symm⟩, HI7.out⟩
              · obtain rfl : tb2 = false := by rw [HTB.out]; exact decide_eq_false (by omega)
                have e0 : stN [pj n k (j + 1)] n = 0 := by rw [(pj_st n k (j + 1)).1, if_neg (by omega)]
                have e1 : stB [pj n k (j + 1)] n = false := by rw [(pj_st n k (j + 1)).2, decide_eq_false (by omega)]
                have HJL := Lib.hid hjl
                clear hjk hjl
                go_wp2_with fail
                refine ST.out.mono ?_
                rintro e w7 ⟨rfl, hb7⟩
                rw [e0, e1]
                have HI7 := Lib.hid (HI6.out.below hb7)
                clear hb7 ST e0 e1
                go_wp2_with fail
                go_roundg (m - (j + 1))
                case measure => have := HGJ.out; omega
                case rel => exact ⟨j + 1, by omega, rfl, by go_num, ⟨false, rfl, (decide_eq_false (by have := HJL.out; omega)).symm⟩, HI7.out⟩
          · obtain rfl : j = m := by omega
            obtain ⟨hr0, hkz, hkz2, hwn⟩ := HR.out
            have d3 : ¬ ((j : Int) + 1 ≤ (j : Int)) := by omega
            have HTB2 := Lib.hid htb
            clear htb
            go_wp2_with fail
            go_roundg (m0 - (q + 1))
            case measure => have := HG.out; omega
            case rel => exact ⟨q + 1, by omega, rfl, by go_num, decide (j < k), 5, _, congrArg Value.bool HTB2.out, HI2.out⟩
    · obtain rfl : q = m0 := by omega
      have hqq : ¬ ((q : Int) < (l.length : Int) ∧ (q : Int) < 20) := by omega
      by_cases hql : q < l.length
      · have d1 : (q : Int) < (l.length : Int) := by omega
        have d2 : ¬ (q : Int) < 20 := by omega
        clear hqq
        go_wp2_with fail
        refine (known26 _).mono ?_
        rintro e w5 ⟨rfl, hb5⟩
        go_wp2_with fail
        go_ret
        exact ⟨rfl, HI.out.1.trans (hb5.mono (Nat.le_of_lt HI.out.2.1.lt))⟩
      · have d1 : ¬ (q : Int) < (l.length : Int) := by omega
        clear hqq
        go_wp2_with fail
        refine (known26 _).mono ?_
        rintro e w5 ⟨rfl, hb5⟩
        go_wp2_with fail
        go_ret
        exact ⟨rfl, HI.out.1.trans (hb5.mono (Nat.le_of_lt HI.out.2.1.lt))⟩

theorem hgone_frame (a0 a1 : Int) (a : Option Addr) (len cap : Nat) (zs : List Int) (w : World) (w0 : (Lit.int .u8 a0).wf = true) (w1 : (Lit.int .u8 a1).wf = true) (hr : IsRow .u8 w a len cap zs) :
    Calls Try.prog 3 #[.int .u8 a0, .int .u8 a1, .slice a len cap] w fun e w' => e = .returned (.bool true) ∧ Below w.heap.size w w' := by
  obtain ⟨n, rfl, hn⟩ := u8_nat w0
  obtain ⟨p, rfl, hp⟩ := u8_nat w1
  obtain ⟨l, rfl, hB, hn', hm⟩ := hr.bytes
  exact hgone_walk n p l a cap w hn hp (by unfold maxLen at hm; omega) hB
end Go.Proofs.Ytpnnmcicpjebmaa
