/-
  CONTRACT of heart's Peers; the peers in memory.
-/
import Derived.Test.YtpnnmcicpjebmaaWrong
set_option linter.unusedSimpArgs false
set_option linter.unusedVariables false
namespace Go.Proofs.Ytpnnmcicpjebmaa
open Go.RowKit
attribute [local go_sem] Oper.semAt_some

structure Pr where
  node : Int
  time : Int
  there : Bool
  state : Int
  left : Int

def pcells (p : Pr) : List Value := [.int .i64 p.node, .int .i64 p.time, .bool p.there, .int .i64 p.state, .int .i64 p.left]
def pvals (ps : List Pr) : List Value := ps.flatMap pcells
theorem pvals_snoc (ps : List Pr) (p : Pr) : pvals (ps ++ [p]) = pvals ps ++ pcells p := by simp [pvals]
theorem pvals_get (ps : List Pr) (i : Nat) (p : Pr) (h : ps[i]? = some p) (j : Nat) (hj : j < 5) : (pvals ps)[i * 5 + j]? = (pcells p)[j]? := by
  induction ps generalizing i with
  | nil => simp at h
  | cons q ps ih =>
    have e : pvals (q :: ps) = pcells q ++ pvals ps := by simp [pvals]
    rw [e]
    cases i with
    | zero =>
      simp at h
      subst h
      rw [Nat.zero_mul, Nat.zero_add, List.getElem?_append_left (by simp [pcells]; omega)]
    | succ i =>
      simp at h
      rw [List.getElem?_append_right (by simp [pcells]; omega)]
      have : (i + 1) * 5 + j - (pcells q).length = i * 5 + j := by simp [pcells]; omega
      rw [this]
      exact ih i h

/-- The peers that words watch. -/
def mkP (us : List Nat) : List Pr := (us.filter fun u => decide (waOk u)).map fun u => ⟨((u / 65536 : Nat) : Int), ((u % 65536 : Nat) : Int), false, 0, 0⟩
theorem mkP_take (us : List Nat) (k : Nat) (h : k < us.length) : mkP (us.take (k + 1)) = mkP (us.take k) ++ if waOk us[k] then [⟨((us[k] / 65536 : Nat) : Int), ((us[k] % 65536 : Nat) : Int), false, 0, 0⟩] else [] := by
  unfold mkP
  rw [List.take_succ_eq_append_getElem h, List.filter_append, List.map_append]
  by_cases c : waOk us[k] <;> simp [c]
theorem mkP_len (us : List Nat) : (mkP us).length ≤ us.length := by unfold mkP; rw [List.length_map]; exact List.length_filter_le _ _

theorem info82 : (Try.prog.info? 82).map (fun i => (i.zero, i.size, i.bytes)) = some (some (.agg #[.int .i64 0, .int .i64 0, .bool false, .int .i64 0, .int .i64 0]), 5, 40) := by kernel_rfl

theorem wrE_len {us : List Nat} (h : wrE us = 0) : us.length ≤ 4 := by
  unfold wrE at h
  by_cases c : 4 < us.length
  · rw [if_pos c] at h; omega
  · omega

set_option maxRecDepth 100000 in
set_option maxHeartbeats 1000000 in
theorem peers_no (b : Nat) (n ev le : Int) (ps : Value) (us : List Nat) (a : Option Addr) (cap : Nat) (w : World) (hH : Hrt w b n ev le ps) (hn : n ≠ 0) (hl : (us.length : Int) ≤ 9223372036854775807) (hU : U32s w a us) (hE : wrE us ≠ 0) :
    Calls Try.prog 13 #[.pointer (some ⟨b, 0, none⟩), .slice a us.length cap] w fun e w' => e = .returned (.int .i64 (wrE us)) ∧ Below w.heap.size w w' := by
  obtain ⟨c0, c1, c2, c3⟩ := hH.cells
  have HT := Lib.hid (there_ok b n w c0 hn)
  have HW := Lib.hid (wrong_any us a cap w hl hU)
  generalize wrE us = R at *
  have hR : (R != 0) = true := by rw [bne_iff_ne]; exact hE
  clear hE hU hH hn
  generalize us.length = ul at *
  go_enter Try.func13, Try.ntmps13
  go_wp2_with fail
  refine HT.out.mono ?_
  rintro e w1 ⟨rfl, rfl⟩
  go_wp2_with fail
  refine HW.out.mono ?_
  rintro e w1 ⟨rfl, hb1⟩
  have HB := Lib.hid hb1
  clear hb1
  go_wp2_with fail
  go_ret
  exact ⟨rfl, HB.out⟩

theorem peers_nil (us : Value) (w : World) : Calls Try.prog 13 #[.pointer none, us] w fun e w' => e = .returned (.int .i64 17) ∧ w = w' := by
  go_enter Try.func13, Try.ntmps13
  go_wp2_with fail
  refine (there_nil _).mono ?_
  rintro e w1 ⟨rfl, rfl⟩
  go_wp2_with fail
  go_ret
  exact ⟨rfl, rfl⟩

theorem U32s.apart {w : World} {b : Nat} {n ev le : Int} {ps : Value} {a : Option Addr} {us : List Nat} (hH : Hrt w b n ev le ps) (hps : ∃ x y z, ps = .slice x y z) (hU : U32s w a us) : ∀ w', Upd (· = b) w w' → U32s w' a us := by
  intro w' hu
  refine ⟨hU.1, ?_⟩
  rcases hU.2 with h | ⟨wb, off, rfl, hc⟩
  · exact .inl h
  · refine .inr ⟨wb, off, rfl, fun i hi => hu.cell_some (hc i hi) (fun (e : wb = b) => ?_)⟩
    subst e
    have h1 := hc i hi
    obtain ⟨x, y, z, rfl⟩ := hps
    unfold Hrt at hH
    simp only [World.cell?, hH] at h1
    generalize off + i = o at h1
    match o, h1 with
    | 0, h => simp at h
    | 1, h => simp at h
    | 2, h => simp at h
    | 3, h => simp at h

theorem Hrt.lt {w : World} {b : Nat} {n ev le : Int} {ps : Value} (h : Hrt w b n ev le ps) : b < w.heap.size := lt_of_block h
theorem own_row_shape {W : World} {base e sz n : Nat} {v : Value} {xs : List Value} (h : W.ownsRow base e sz v n xs) : ∃ a cap, v = .slice a n cap := by
  rcases h.2 with ⟨rfl, rfl⟩ | ⟨g, cap, cur, rfl, _⟩
  · exact ⟨none, 0, rfl⟩
  · exact ⟨_, cap, rfl⟩

set_option maxRecDepth 100000 in
set_option maxHeartbeats 4000000 in
theorem peers_ok (b : Nat) (n ev le : Int) (ps : Value) (hps : ∃ x y z, ps = .slice x y z) (us : List Nat) (a : Option Addr) (cap : Nat) (w : World) (hH : Hrt w b n ev le ps) (hn : n ≠ 0) (hl : (us.length : Int) ≤ 9223372036854775807) (hU : U32s w a us) (hE : wrE us = 0) :
    Calls Try.prog 13 #[.pointer (some ⟨b, 0, none⟩), .slice a us.length cap] w fun e w' => e = .returned (.int .i64 0) ∧ ∃ v, Hrt w' b n ev le v ∧ w'.ownsRow w.heap.size 82 5 v (mkP us).length (pvals (mkP us)) ∧ Upd (· = b) w w' := by
  obtain ⟨c0, c1, c2, c3⟩ := hH.cells
  have hbl := hH.lt
  have HT := Lib.hid (there_ok b n w c0 hn)
  have HW := Lib.hid (wrong_any us a cap w hl hU)
  rw [hE] at HW
  have HU := Lib.hid (U32s.apart hH hps hU)
  have HH := Lib.hid hH
  have hul := wrE_len hE
  clear hE hU hH hn
  go_enter Try.func13, Try.ntmps13
  go_wp2_with fail
  refine HT.out.mono ?_
  rintro e w1 ⟨rfl, rfl⟩
  go_wp2_with fail
  refine HW.out.mono ?_
  rintro e w1 ⟨rfl, hb1⟩
  have HB1 := Lib.hid hb1
  have HH1 : Hid (Hrt w1 b n ev le ps) := bkeep' hb1 HH.out
  have s1 := hb1.size
  clear hb1 c0 c1 c2 c3
  obtain ⟨c0, c1, c2, c3⟩ := HH1.out.cells
  have f3 := free_of HH1.out 3
  have hbl1 : b < w1.heap.size := by omega
  have HH2 : Hid (Hrt (w1.setCell ⟨b, 3, none⟩ (.slice none 0 0)) b n ev le (.slice none 0 0)) := hset HH1.out 3 _
  have HU2 : Hid (Upd (· = b) w (w1.setCell ⟨b, 3, none⟩ (.slice none 0 0))) := (Upd.ofBelow' (S := (· = b)) HB1.out).setCell (p := ⟨b, 3, none⟩) (fun _ => rfl) _
  go_wp2_with fail
  go_loopw [24] (fun i wr => ∃ k : Nat, k ≤ us.length ∧ i = .int .i64 k ∧ ∃ v, Hrt wr b n ev le v ∧ wr.ownsRow w.heap.size 82 5 v (mkP (us.take k)).length (pvals (mkP (us.take k))) ∧ Upd (· = b) w wr) (fun i _ => us.length - (intOf i).toNat)
  case atStart => exact ⟨0, by omega, rfl, .slice none 0 0, HH2.out, by simpa [mkP, pvals] using World.ownsRow_nil _ w.heap.size 82 5, HU2.out⟩
  case round =>
    obtain ⟨k, hk, rfl, v, hH, hown, hu⟩ := hrel
    obtain ⟨ao, ac, rfl⟩ := own_row_shape hown
    have HHk := Lib.hid hH
    have HO := Lib.hid hown
    have HUk := Lib.hid hu
    have hwr := hu.size
    have hblr := hH.lt
    clear hH hown hu HH1 HH2 HU2 HB1 HH c0 c1 c2 c3 f3
    by_cases hk1 : k < us.length
    · have d1 : (k : Int) < (us.length : Int) := by omega
      obtain ⟨wb, off, rfl, hbl2, hc, hu32⟩ := (HU.out _ HUk.out).at hk1
      have HT1 := Lib.hid (mkP_take us k hk1)
      obtain ⟨u, hue⟩ : ∃ u, us[k] = u := ⟨_, rfl⟩
      rw [hue] at hc hu32 HT1
      clear hue
      go_wp2_with fail
      refine (watch_any u hu32 _).mono ?_
      rintro e w2 ⟨rfl, rfl⟩
      by_cases c2 : waOk u
      · have e1 : waN u = ((u / 65536 : Nat) : Int) := by unfold waN; rw [if_pos c2]
        have e2 : waT u = ((u % 65536 : Nat) : Int) := by unfold waT; rw [if_pos c2]
        rw [decide_eq_true c2, e1, e2]
        rw [if_pos c2] at HT1
        have hml := mkP_len (us.take k)
        have hml2 : (us.take k).length ≤ us.length := List.length_take_le' _ _
        generalize hN : ((u / 65536 : Nat) : Int) = N at *
        generalize hT : ((u % 65536 : Nat) : Int) = T at *
        generalize mkP (us.take k) = L at *
        clear c2 e1 e2 hN hT
        obtain ⟨c0, c1, c2, c3⟩ := HHk.out.cells
        have f3 := free_of HHk.out 3
        go_wp2_with (at_builtin; refine wpList_append_any rfl (.tmp 39) (.tmp 43) 78 rfl w.heap.size 82 (.agg #[.int .i64 0, .int .i64 0, .bool false, .int .i64 0, .int .i64 0]) 5 40 Try.underlying78 info82 rfl (by decide) _ _ _ rfl (HO.out.alloc _) (some ⟨wr.heap.size, 0, none⟩) 1 1 (pcells ⟨N, T, false, 0, 0⟩) rfl (fun h => by cases h) (by simp [pcells]) ?c1 ?c2 ?c3 ?c4 ?c5 ?_)
        case c1 =>
          intro ad e i x hx
          cases e
          have hnew : (wr.alloc (.cells #[.int .i64 N, .int .i64 T, .bool false, .int .i64 0, .int .i64 0] 82)).heap[wr.heap.size]? = some (.cells #[.int .i64 N, .int .i64 T, .bool false, .int .i64 0, .int .i64 0] 82 (0, 0)) := heap_alloc_new _ _
          obtain ⟨n0, n1, n2, n3, n4⟩ := cells5 hnew
          rw [Addr.add_lit, Nat.zero_add]
          match i, hx with
          | 0, hx => simp [pcells] at hx; subst hx; exact n0
          | 1, hx => simp [pcells] at hx; subst hx; exact n1
          | 2, hx => simp [pcells] at hx; subst hx; exact n2
          | 3, hx => simp [pcells] at hx; subst hx; exact n3
          | 4, hx => simp [pcells] at hx; subst hx; exact n4
        case c2 => intro x hx; simp [pcells] at hx; rcases hx with rfl | rfl | rfl | rfl | rfl <;> rfl
        case c3 => unfold maxLen; omega
        case c4 => omega
        case c5 => simp; omega
        intro v' w1 hown' hg
        have hne : some b ≠ (Value.slice ao L.length ac).ownBlock := fun e => by
          have := (HO.out.lt b e.symm).1; omega
        have hH3 : Hrt w1 b n ev le (.slice ao L.length ac) := (hg.block b (by simp; omega) hne).trans (akeep _ HHk.out)
        have hU3 : Upd (· = b) w w1 := ((HUk.out.alloc _)).grown hg (fun i e hi => by have := (HO.out.lt i e).1; omega)
        obtain ⟨a', cap', rfl⟩ := own_row_shape hown'
        obtain ⟨g0, g1, g2, g3⟩ := hH3.cells
        have fg := free_of hH3 3
        have hb1 := hH3.lt
        have H3 := Lib.hid hH3
        have U3 := Lib.hid hU3
        have O3 := Lib.hid hown'
        clear hH3 hU3 hown' hg hne
        go_wp2_with fail
        go_roundw
        case rel =>
          refine ⟨k + 1, by omega, by go_num, _, hset H3.out 3 _, ?_, U3.out.setCell (p := ⟨b, 3, none⟩) (fun _ => rfl) _⟩
          rw [HT1.out, pvals_snoc, List.length_append]
          exact ownsRow_setCell_below O3.out (a := ⟨b, 3, none⟩) (by simp; omega) _
        case measure => simp [intOf]; omega
      · rw [decide_eq_false c2]
        rw [if_neg c2, List.append_nil] at HT1
        generalize waN u = x1 at *
        generalize waT u = x2 at *
        clear c2
        go_wp2_with fail
        go_roundw
        case rel => exact ⟨k + 1, by omega, by go_num, _, HHk.out, by rw [HT1.out]; exact HO.out, HUk.out⟩
        case measure => simp [intOf]; omega
    · obtain rfl : k = us.length := by omega
      have e : us.take us.length = us := List.take_of_length_le (Nat.le_refl _)
      have E := Lib.hid e
      clear e
      go_wp2_with fail
      go_ret
      refine ⟨rfl, _, HHk.out, ?_, HUk.out⟩
      have h := HO.out
      rw [E.out] at h ⊢
      exact h
end Go.Proofs.Ytpnnmcicpjebmaa
