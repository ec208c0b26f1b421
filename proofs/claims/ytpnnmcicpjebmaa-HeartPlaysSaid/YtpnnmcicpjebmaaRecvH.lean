/-
  CONTRACT of heart's Receive.
-/
import Derived.Test.YtpnnmcicpjebmaaTickH
set_option linter.unusedSimpArgs false
set_option linter.unusedVariables false
namespace Go.Proofs.Ytpnnmcicpjebmaa
open Go.RowKit
attribute [local go_sem] Oper.semAt_some

theorem uponIn_round {F : Fence} {n : Nat} {P : Program} {o : Oper} {a : Act} {K : Act → World → Prop} {Q : Exit → Act → World → Prop} (l : Nat) (r : Result Next) (h : o.uponIn F n P a K Q r) : o.uponIn (F.inRound l) n P a K Q r := by
  cases r with
  | ok x w' => cases x <;> exact h
  | halt x w' => cases x <;> exact h
theorem wpAnyIn_round {F : Fence} {n : Nat} {P : Program} {md : Region.Mode} {ops : Array Oper} {Q : Exit → Act → World → Prop} (l : Nat) (hro : F.round = none)
    (hd : ∀ (i : Nat) (o : Oper), ops[i]? = some o → ∀ c, o.op ≠ .defer c) : ∀ (fuel : Nat) (listed : Array Bool) (a : Act) (w : World), wpAnyIn F n P md ops Q fuel listed a w → wpAnyIn (F.inRound l) n P md ops Q fuel listed a w := by
  intro fuel
  induction fuel with
  | zero => intro listed a w h; exact h
  | succ fuel ih =>
    intro listed a w h
    refine ⟨h.1, fun i hi => ?_⟩
    have h2 := wpOpIn_mono (fun a w => ih (listed.setIfInBounds i true) a w) (h.2 i hi)
    unfold wpOpIn at h2 ⊢
    split
    · rename_i e; simp only [e] at h2; exact h2
    · rename_i o e
      simp only [e] at h2
      split
      · rename_i hw
        simp only [hw, if_true] at h2
        unfold Oper.wpIn at h2 ⊢
        refine ⟨h2.1, uponIn_round l _ ?_⟩
        rw [Oper.semAt_eq _ _ _ (hd i o e)]
        have h3 := h2.2
        rw [Oper.semAt_eq _ _ _ (hd i o e)] at h3
        exact h3
      · rename_i hw
        simp only [hw] at h2
        exact h2
/-- A code whose ways all come to one state. -/
theorem wpIn_same {F : Fence} {k : Nat} {P : Program} {c : Code} {Q : Exit → Act → World → Prop} {a : Act} {w : World} {A : Act} {W : World}
    (h : c.wpIn F k P (fun e a' w' => e = .normal ∧ a' = A ∧ w' = W) a w) (hK : Q .normal A W) : c.wpIn F k P Q a w :=
  Go.wpIn_mono h (by rintro e a2 w2 ⟨rfl, rfl, rfl⟩; exact hK)

def rcP (node st : Int) (p : Pr) : Pr := if p.node = node then { p with there := true, state := st, left := p.time } else p
def rcN (node : Int) (ps : List Pr) : List (Int × Int) := (ps.filter fun p => decide (p.node = node) && !p.there).map fun _ => (1, node)
def rcM (node st : Int) (ps : List Pr) (k : Nat) : List Pr := (ps.take k).map (rcP node st) ++ ps.drop k
theorem rcM_at (node st : Int) (ps : List Pr) (k : Nat) (h : k < ps.length) : (rcM node st ps k)[k]? = some ps[k] := by
  unfold rcM
  rw [List.getElem?_append_right (by simp; omega)]
  simp [Nat.min_eq_left (Nat.le_of_lt h), h]
theorem rcM_set (node st : Int) (ps : List Pr) (k : Nat) (h : k < ps.length) : rcM node st ps (k + 1) = (rcM node st ps k).set k (rcP node st ps[k]) := by
  unfold rcM
  have hl : ((ps.take k).map (rcP node st)).length = k := by simp; omega
  rw [List.take_succ_eq_append_getElem h, List.map_append, List.drop_eq_getElem_cons h]
  generalize (ps.take k).map (rcP node st) = l at *
  rw [List.set_append, if_neg (by omega), hl, Nat.sub_self, List.append_assoc]
  rfl
theorem rcM_all (node st : Int) (ps : List Pr) : rcM node st ps ps.length = ps.map (rcP node st) := by unfold rcM; simp
theorem rcN_take (node : Int) (ps : List Pr) (k : Nat) (h : k < ps.length) : rcN node (ps.take (k + 1)) = rcN node (ps.take k) ++ if ps[k].node = node ∧ ps[k].there = false then [(1, node)] else [] := by
  unfold rcN
  rw [List.take_succ_eq_append_getElem h, List.filter_append, List.map_append]
  by_cases c : ps[k].node = node ∧ ps[k].there = false
  · rw [if_pos c]; simp [c]
  · rw [if_neg c]
    have : (decide (ps[k].node = node) && !ps[k].there) = false := by
      by_cases c1 : ps[k].node = node
      · cases h2 : ps[k].there
        · exact absurd ⟨c1, h2⟩ c
        · simp
      · simp [c1]
    simp [this]
theorem rcN_len (node : Int) (ps : List Pr) (k : Nat) : (rcN node (ps.take k)).length ≤ k := by
  unfold rcN
  rw [List.length_map]
  exact Nat.le_trans (List.length_filter_le _ _) (List.length_take_le _ _)

set_option maxRecDepth 100000 in
set_option maxHeartbeats 1000000 in
theorem recvH_no (p : Option Addr) (id : Int) (rem : Bool) (l : List UInt8) (fa : Option Addr) (fc : Nat) (w : World) (hl : (l.length : Int) ≤ 70368744177664) (hB : Bytes w fa l) (h : ¬ heOk id rem l) :
    Calls Try.prog 14 #[.pointer p, .agg #[.int .i64 id, .bool rem, .slice fa l.length fc]] w fun e w' => e = .returned (.slice none 0 0) ∧ Below w.heap.size w w' := by
  have HHe := Lib.hid (fun W (hB : Bytes W fa l) => heard_any id rem l fa fc W hl hB)
  rw [decide_eq_false h] at HHe
  have HBy := Lib.hid hB
  generalize heN id rem l = x1 at *
  generalize heS id rem l = x2 at *
  clear h hB
  refine callsIn_wide (n := 0) |>.1 ?_
  refine callsIn_of_wp_marks Try.func14 rfl trivial ?_ rfl
  simp only [Try.ntmps14, List.size_toArray, List.length_cons, List.length_nil, Nat.reduceAdd, Nat.reduceSub, Array.replicate_succ, Array.replicate_zero, List.push_toArray, List.append_toArray, List.nil_append, List.cons_append]
  gi_wp2_with fail
  refine ⟨trivial, rfl, (callsIn_wide.2 (HHe.out _ (HBy.out.below (by go_grown)))).mono ?_⟩
  rintro e w1 ⟨rfl, hb1⟩
  have HB1 := Lib.hid (bstep (B := w.heap.size) (w := w) hb1 (by go_grown) (Nat.le_refl _))
  clear hb1
  gi_wp2_with fail
  have b1 := HB1.out
  have s1 := b1.size
  exact ⟨_, results_tmp rfl _ _ _, rfl, by go_grown⟩

def rcTmps (b g : Nat) (id : Int) (rem : Bool) (fs : Value) (nd sx : Int) (F B : Nat) (j : Nat) : Array Value :=
  #[.pointer (some ⟨b, 0, none⟩), .agg #[.int .i64 id, .bool rem, fs], undef, .pointer (some ⟨F, 0, none⟩), .slice none 0 0, .pointer (some ⟨B, 0, none⟩), .pointer (some ⟨B + 1, 0, none⟩), .bool true, .pointer (some ⟨B + 1 + 1, 0, none⟩), .pointer (some ⟨g, j * 5, none⟩),
    .tuple #[.int .i64 nd, .int .i64 sx, .bool true], .agg #[.int .i64 id, .bool rem, fs], .tuple #[.int .i64 nd, .int .i64 sx, .bool true], .int .i64 nd, .int .i64 sx, .bool true, .bool true, .bool false, .pointer (some ⟨b, 0, none⟩),
    .func (.func 55) #[] #[.pointer (some ⟨B + 1 + 1 + 1, 0, none⟩)], .pointer (some ⟨g, j * 5, none⟩), undef, undef, undef, undef, undef, undef, undef, undef, undef, undef, undef, undef, undef, undef, undef, undef, undef, undef, undef, undef, undef, undef, undef, undef, undef, undef, undef, undef, undef, undef, undef]

set_option maxRecDepth 100000 in
set_option maxHeartbeats 4000000 in
theorem recvH_yes (b g : Nat) (n ev le : Int) (a : Option Addr) (m c : Nat) (ps : List Pr) (id : Int) (rem : Bool) (l : List UInt8) (fa : Option Addr) (fc : Nat) (w : World) (hH : Hrt w b n ev le (.slice a m c)) (hP : PrAt w a m g ps) (hn : n ≠ 0) (hm : (m : Int) ≤ 1000) (hl : (l.length : Int) ≤ 70368744177664) (hB : Bytes w fa l) (h : heOk id rem l) :
    Calls Try.prog 14 #[.pointer (some ⟨b, 0, none⟩), .agg #[.int .i64 id, .bool rem, .slice fa l.length fc]] w fun e w' => ∃ nv, e = .returned nv ∧ w'.ownsRow w.heap.size 36 2 nv (rcN (heN id rem l) ps).length (nvals (rcN (heN id rem l) ps)) ∧
      Hrt w' b n ev le (.slice a m c) ∧ PrAt w' a m g (ps.map (rcP (heN id rem l) (heS id rem l))) ∧ Upd (fun k => m ≠ 0 ∧ k = g) w w' := by
  have hlen : ps.length = m := hP.1
  have HHe := Lib.hid (fun W (hB : Bytes W fa l) => heard_any id rem l fa fc W hl hB)
  rw [decide_eq_true h] at HHe
  have HBy := Lib.hid hB
  generalize heN id rem l = nd at *
  generalize heS id rem l = sx at *
  have hgb := hP.ne hH (by decide)
  have hbw := hH.lt
  have hgw : m = 0 ∨ g < w.heap.size := by
    by_cases h0 : m = 0
    · exact .inl h0
    · exact .inr (hP.free (by omega) 0).2
  have HP0 := Lib.hid hP
  have HH0 := Lib.hid hH
  clear h hB hP hH
  refine callsIn_wide (n := 0) |>.1 ?_
  refine callsIn_of_wp_marks Try.func14 rfl trivial ?_ rfl
  simp only [Try.ntmps14, List.size_toArray, List.length_cons, List.length_nil, Nat.reduceAdd, Nat.reduceSub, Array.replicate_succ, Array.replicate_zero, List.push_toArray, List.append_toArray, List.nil_append, List.cons_append]
  gi_wp2_with fail
  refine ⟨trivial, rfl, (callsIn_wide.2 (HHe.out _ (HBy.out.below (by go_grown)))).mono ?_⟩
  rintro e w1 ⟨rfl, hb1⟩
  have HB1 := Lib.hid (bstep (B := w.heap.size) (w := w) hb1 (by go_grown) (Nat.le_refl _))
  have hb1' := HB1.out
  have s1 := hb1'.size
  have HH1 := Lib.hid (show Hrt w1 b n ev le (.slice a m c) from (hb1'.block b hbw).trans HH0.out)
  have HP1 := Lib.hid (show PrAt w1 a m g ps from HP0.out.same fun cs hh => bkeep' hb1' hh)
  have HU1 := Lib.hid (show Upd (GS m g) w w1 from Upd.ofBelow' hb1')
  clear hb1 hb1'
  gi_wp2_with fail
  refine ⟨trivial, rfl, (callsIn_wide.2 (each_any _ _)).mono ?_⟩
  rintro e w' ⟨rfl, rfl⟩
  gi_wp2_with fail
  obtain ⟨h0, h1, h2, h3, hs, hb⟩ := new4 w1 (.cells #[.int .i64 nd] 3) (.cells #[.int .i64 sx] 3) (.cells #[.slice none 0 0] 33) (.cells #[.pointer (some ⟨b, 0, none⟩)] 23)
  have hc : Hrt ((((w1.alloc (.cells #[.int .i64 nd] 3)).alloc (.cells #[.int .i64 sx] 3)).alloc (.cells #[.slice none 0 0] 33)).alloc (.cells #[.pointer (some ⟨b, 0, none⟩)] 23)) b n ev le (.slice a m c) := (hb.block b HH1.out.lt).trans HH1.out
  have hp : PrAt ((((w1.alloc (.cells #[.int .i64 nd] 3)).alloc (.cells #[.int .i64 sx] 3)).alloc (.cells #[.slice none 0 0] 33)).alloc (.cells #[.pointer (some ⟨b, 0, none⟩)] 23)) a m g ps := HP1.out.same fun cs hh => bkeep' hb hh
  obtain ⟨W0, hW0⟩ : ∃ W0, ((((w1.alloc (.cells #[.int .i64 nd] 3)).alloc (.cells #[.int .i64 sx] 3)).alloc (.cells #[.slice none 0 0] 33)).alloc (.cells #[.pointer (some ⟨b, 0, none⟩)] 23)) = W0 := ⟨_, rfl⟩
  rw [hW0] at h0 h1 h2 h3 hs hb hc hp ⊢
  clear hW0
  have hg1 : m = 0 ∨ g < w1.heap.size := hgw.imp (fun h => h) (fun h => by omega)
  have hown0 : NewsB W0 (w1.heap.size + 2) (w1.heap.size + 4) (rcN nd (ps.take 0)) := ⟨_, h2, by simpa [rcN, nvals] using World.ownsRow_nil W0 (w1.heap.size + 4) 36 2⟩
  have hb1 : b < w1.heap.size := HH1.out.lt
  refine wp_range (full := (List.range m).map (pitem g)) (Rd := fun _ W => RdH (w1.heap.size + 3) b n a m c W) rfl (enters_of Try.func55 (by kernel_rfl) rfl) (iter_any (w1.heap.size + 3) b g n hn a m c hm HP1.out.where_ W0) (Below.refl _ _) (fun k hk => by simp [pitem])
    (fun k W => NewsB W (w1.heap.size + 2) (w1.heap.size + 4) (rcN nd (ps.take k)) ∧ (W.heap[w1.heap.size]? = some (.cells #[.int .i64 nd] 3 (0, 0)) ∧ W.heap[w1.heap.size + 1]? = some (.cells #[.int .i64 sx] 3 (0, 0)) ∧ W.heap[w1.heap.size + 3]? = some (.cells #[.pointer (some ⟨b, 0, none⟩)] 23 (0, 0))) ∧ Hrt W b n ev le (.slice a m c) ∧ PrAt W a m g (rcM nd sx ps k) ∧ Upd (GS m g) w1 W)
    (fun c k W => False)
    (NewsB.ownF.and (((own_blk _ _).and ((own_blk _ _).and (own_blk _ _))).and (Hrt.ownF.and (PrAt.ownF.and (own_upd (by omega))))))
    (fun c => own_pure _)
    (fun k W hI => ⟨cell_of_one hI.2.1.2.2, hI.2.2.1.cells.1, hI.2.2.1.cells.2.2.2⟩)
    ⟨hown0, ⟨h0, h1, h3⟩, hc, by simpa [rcM] using hp, Upd.ofBelow' hb⟩
    (fun k => { tmps := rcTmps b g id rem (.slice fa l.length fc) nd sx w.heap.size w1.heap.size k, defers := [] }) ?assign ?body ?done ?stop
  case assign =>
    intro l k hk W K hK
    have hj : ((List.range m).map (pitem g))[k] = pitem g k := by simp
    rw [hj]
    clear hk hj
    unfold pitem rcTmps at *
    gi_wp2
    exact hK
  case body =>
    rintro l k W hk hsz ⟨hnews, ⟨c0, c1, c3⟩, hc, hp, hu⟩
    have hk' : k < ps.length := by rw [hlen]; simpa using hk
    have hpk := rcM_at nd sx ps k hk'
    have hset1 := rcM_set nd sx ps k hk'
    have hnt := rcN_take nd ps k hk'
    have hnl := rcN_len nd ps k
    obtain ⟨p, hpe⟩ : ∃ p, ps[k] = p := ⟨_, rfl⟩
    rw [hpe] at hpk hset1 hnt
    obtain ⟨q0, q1, q2, q3, q4⟩ := hp.cell hpk
    have hm0 : m ≠ 0 := by omega
    have hg2 : g < w1.heap.size := hg1.resolve_left hm0
    have hgb2 : ¬ g = b := hgb.resolve_left hm0
    obtain ⟨hfr2, hgl⟩ := hp.free (by omega) (k * 5 + 2)
    obtain ⟨hfr3, _⟩ := hp.free (by omega) (k * 5 + 3)
    obtain ⟨hfr4, _⟩ := hp.free (by omega) (k * 5 + 4)
    have d0 := cell_of_one c0
    have d1 := cell_of_one c1
    have HK := Lib.hid hpk
    have HC := Lib.hid (And.intro c0 (And.intro c1 c3))
    have HH := Lib.hid hc
    have HP := Lib.hid hp
    have HNB := Lib.hid hnews
    have HST := Lib.hid hset1
    have HNT := Lib.hid hnt
    have HUP := Lib.hid hu
    have mo : Try.prog.follows .mixedOrders = true := by kernel_rfl
    have hWs := hu.size
    obtain ⟨pn, pt, pb, pst, pl⟩ := p
    simp only at q0 q1 q2 q3 q4
    clear hpk hpe c0 c1 c3 hc hp hset1 hnt hnews hu
    unfold rcTmps
    by_cases hjn : pn = nd
    · subst hjn
      have ht : (pn != pn) = false := by simp
      have hP2 := HP.out.set HK.out 2 (.bool true) (q := ⟨pn, pt, true, pst, pl⟩) (by omega) rfl
      have hkm : k < (rcM pn sx ps k).length := (List.getElem?_eq_some_iff.1 HK.out).1
      have hP3 := hP2.set (i := k) (p := ⟨pn, pt, true, pst, pl⟩) (q := ⟨pn, pt, true, sx, pl⟩) (by rw [List.getElem?_set_self hkm]) 3 (.int .i64 sx) (by omega) rfl
      rw [List.set_set] at hP3
      have hP4 := hP3.set (i := k) (p := ⟨pn, pt, true, sx, pl⟩) (q := ⟨pn, pt, true, sx, pt⟩) (by rw [List.getElem?_set_self hkm]) 4 (.int .i64 pt) (by omega) rfl
      rw [List.set_set] at hP4
      cases pb
      · clear hP4 hP3 hP2
        obtain ⟨v, hv, hown⟩ := HNB.out
        obtain ⟨ao, cap, rfl⟩ := news_shape hown
        have e0 := cell_of_one hv
        have HO2 := Lib.hid (show W.drew.ownsRow (w1.heap.size + 4) 36 2 (.slice ao (rcN pn (ps.take k)).length cap) (rcN pn (ps.take k)).length (nvals (rcN pn (ps.take k))) from hown)
        have HV := Lib.hid hv
        obtain ⟨i0, hi, hz0, hz1, hz2⟩ := info_parts info36
        clear hv hown
        gi_wp2
        apply wpIn_same
        · gi_region_with_o (fail)
          all_goals exact ⟨rfl, rfl, rfl⟩
        gi_wp2_with (gi_at_builtin; refine wpListIn_append_own _ rfl (.tmp 32) (.tmp 35) 33 rfl (w1.heap.size + 4) 36 i0 (.agg #[.int .i64 0, .int .i64 0]) 2 16 Try.underlying33 hi hz0 hz1 hz2 rfl (by decide) _ _ _ rfl (HO2.out.alloc _) ⟨W.heap.size, 0, none⟩ 1 1 [.int .i64 1, .int .i64 pn] rfl rfl ?c1 ?c2 ?c3 ?c4 ?c5 ?_)
        case c1 =>
          intro i x hx
          have hnew : (W.drew.alloc (.cells #[.int .i64 1, .int .i64 pn] 36)).heap[W.heap.size]? = some (.cells #[.int .i64 1, .int .i64 pn] 36 (0, 0)) := heap_alloc_new W.drew _
          obtain ⟨n0, n1⟩ := cells2 hnew
          rw [Addr.add_lit, Nat.zero_add]
          match i, hx with
          | 0, hx => simp at hx; subst hx; exact n0
          | 1, hx => simp at hx; subst hx; exact n1
        case c2 => intro x hx; simp at hx; rcases hx with rfl | rfl <;> rfl
        case c3 => unfold maxLen; omega
        case c4 => omega
        case c5 => simp; omega
        intro v' w2 hown' hg _
        have hsh := news_shape hown'
        have hlt := HO2.out.lt
        have hne : ∀ i, i < w1.heap.size + 4 → some i ≠ (Value.slice ao (rcN pn (ps.take k)).length cap).ownBlock := fun i hi e => by
          have := (hlt i e.symm).1; omega
        have hbk : ∀ (i : Nat) (o : Obj), i < w1.heap.size + 4 → W.heap[i]? = some o → w2.heap[i]? = some o := fun i o hi ho => (hg.block i (by have := lt_of_block ho; simp; omega) (hne i hi)).trans (akeep (W := W.drew) _ ho)
        have hk1 : KeepsOthers W w2 := (KeepsOthers.drew W).trans ((KeepsOthers.alloc _ _).trans (KeepsOthers.of_grownBy hg (fun i o e ho => by
          rcases (HO2.out.alloc (.cells #[.int .i64 1, .int .i64 pn] 36)).2 with ⟨hs, _⟩ | ⟨g, c, cur, hs, _, hh, _⟩
          · rw [hs] at e; simp [Value.ownBlock] at e
          · rw [hs] at e; simp [Value.ownBlock] at e; subst e; rw [hh] at ho; cases ho; rfl)))
        have hu1 : Upd (GS m g) w1 w2 := (HUP.out.drew.alloc _).grown hg (fun i e hi => by have := (hlt i e).1; omega)
        obtain ⟨c0, c1, c3⟩ := HC.out
        have f2 := free_of_one (hbk _ _ (by omega) HV.out)
        have e2 := cell_of_one (hbk _ _ (by omega) HV.out)
        have X0 := skeep (a := ⟨w1.heap.size + 2, 0, none⟩) v' (hbk _ _ (by omega) c0) (by simp)
        have X1 := skeep (a := ⟨w1.heap.size + 2, 0, none⟩) v' (hbk _ _ (by omega) c1) (by simp)
        have X3 := skeep (a := ⟨w1.heap.size + 2, 0, none⟩) v' (hbk _ _ (by omega) c3) (by simp)
        have XH : Hrt (w2.setCell ⟨w1.heap.size + 2, 0, none⟩ v') b n ev le (.slice a m c) := skeep (a := ⟨w1.heap.size + 2, 0, none⟩) v' (hbk _ _ (by omega) HH.out) (by simp; omega)
        have XP : PrAt (w2.setCell ⟨w1.heap.size + 2, 0, none⟩ v') a m g (rcM pn sx ps k) := HP.out.same fun cs hh => skeep (a := ⟨w1.heap.size + 2, 0, none⟩) v' (hbk _ _ (by omega) hh) (by simp; omega)
        have XN : NewsB (w2.setCell ⟨w1.heap.size + 2, 0, none⟩ v') (w1.heap.size + 2) (w1.heap.size + 4) (rcN pn (ps.take k) ++ [(1, pn)]) := by
          refine ⟨_, hset (hbk _ _ (by omega) HV.out) 0 v', ?_⟩
          rw [nvals_snoc, List.length_append]
          exact ownsRow_setCell_below hown' (a := ⟨w1.heap.size + 2, 0, none⟩) (by simp) _
        have XK := hk1.trans (KeepsOthers.setCell w2 ⟨w1.heap.size + 2, 0, none⟩ v')
        have XU := hu1.setCell (p := ⟨w1.heap.size + 2, 0, none⟩) (fun h => absurd h (by simp)) v'
        have YX0 := Lib.hid X0
        have YX1 := Lib.hid X1
        have YX3 := Lib.hid X3
        have YXH := Lib.hid XH
        have YXP := Lib.hid XP
        have YXN := Lib.hid XN
        have YXK := Lib.hid XK
        have YXU := Lib.hid XU
        clear hk1 hu1 hbk hne hlt hg hown' c0 c1 c3 q0 q1 q2 q3 q4 d0 d1 e0 hfr2 hfr3 hfr4
        obtain ⟨X, hX⟩ : ∃ X, w2.setCell ⟨w1.heap.size + 2, 0, none⟩ v' = X := ⟨_, rfl⟩
        clear X0 X1 X3 XH XP XN XK XU
        rw [hX] at YX0 YX1 YX3 YXH YXP YXN YXK YXU
        obtain ⟨a', cap', hsh⟩ := hsh
        subst hsh
        gi_wp2
        clear hX
        obtain ⟨q0, q1, q2, q3, q4⟩ := YXP.out.cell HK.out
        have d1 := cell_of_one YX1.out
        obtain ⟨hfr2, hgl⟩ := YXP.out.free (by omega) (k * 5 + 2)
        obtain ⟨hfr3, _⟩ := YXP.out.free (by omega) (k * 5 + 3)
        obtain ⟨hfr4, _⟩ := YXP.out.free (by omega) (k * 5 + 4)
        simp only at q0 q1 q2 q3 q4
        have hP2 := YXP.out.set HK.out 2 (.bool true) (q := ⟨pn, pt, true, pst, pl⟩) (by omega) rfl
        have hP3 := hP2.set (i := k) (p := ⟨pn, pt, true, pst, pl⟩) (q := ⟨pn, pt, true, sx, pl⟩) (by rw [List.getElem?_set_self hkm]) 3 (.int .i64 sx) (by omega) rfl
        rw [List.set_set] at hP3
        have hP4 := hP3.set (i := k) (p := ⟨pn, pt, true, sx, pl⟩) (q := ⟨pn, pt, true, sx, pt⟩) (by rw [List.getElem?_set_self hkm]) 4 (.int .i64 pt) (by omega) rfl
        rw [List.set_set] at hP4
        have HN4 := Lib.hid (((YXN.out.setCell (a := ⟨g, k * 5 + 2, none⟩) (by simp; omega) (by simp; omega) (.bool true)).setCell (a := ⟨g, k * 5 + 3, none⟩) (by simp; omega) (by simp; omega) (.int .i64 sx)).setCell (a := ⟨g, k * 5 + 4, none⟩) (by simp; omega) (by simp; omega) (.int .i64 pt))
        have HP4 := Lib.hid hP4
        clear hP4 hP3 hP2
        apply wpIn_same
        · refine wpIn_region_any mo ?_
          change wpAnyIn _ _ _ _ _ _ _ _ _ (World.drew _)
          refine wpAnyIn_round l rfl (by intro i o h c; match i, h with | 0, h | 1, h | 2, h | 3, h | 4, h | 5, h | 6, h | 7, h | 8, h | 9, h | 10, h | 11, h | 12, h | 13, h | 14, h | 15, h | 16, h => cases h; intro e; cases e) _ _ _ _ ?_
          refine wpAnyIn_take (i := 0) (v := (.pointer (some ⟨g, k * 5, none⟩))) rfl rfl (by decide +kernel) (by decide +kernel) (by decide +kernel) (fun _ _ _ h => nomatch h.1) ⟨Or.inl ⟨by rfl, by intro w; go_simp⟩, fun _ => rfl⟩ ?_
          refine wpAnyIn_take (i := 1) (v := (.pointer (some ⟨g, k * 5, none⟩))) rfl rfl (by decide +kernel) (by decide +kernel) (by decide +kernel) (fun _ _ _ h => nomatch h.1) ⟨Or.inl ⟨by rfl, by intro w; go_simp⟩, fun _ => rfl⟩ ?_
          refine wpAnyIn_take (i := 2) (v := (.pointer (some ⟨g, k * 5, none⟩))) rfl rfl (by decide +kernel) (by decide +kernel) (by decide +kernel) (fun _ _ _ h => nomatch h.1) ⟨Or.inl ⟨by rfl, by intro w; go_simp⟩, fun _ => rfl⟩ ?_
          refine wpAnyIn_take (i := 4) (v := (.pointer (some ⟨g, k * 5, none⟩))) rfl rfl (by decide +kernel) (by decide +kernel) (by decide +kernel) (fun _ _ _ h => nomatch h.1) ⟨Or.inl ⟨by rfl, by intro w; go_simp⟩, fun _ => rfl⟩ ?_
          refine wpAnyIn_take (i := 5) (v := (.pointer (some ⟨g, k * 5, none⟩))) rfl rfl (by decide +kernel) (by decide +kernel) (by decide +kernel) (fun _ _ _ h => nomatch h.1) ⟨Or.inl ⟨by rfl, by intro w; go_simp⟩, fun _ => rfl⟩ ?_
          refine wpAnyIn_take (i := 6) (v := (.pointer (some ⟨g, k * 5 + 1, none⟩))) rfl rfl (by decide +kernel) (by decide +kernel) (by decide +kernel) (fun _ _ _ h => nomatch h.1) ⟨Or.inl ⟨by rfl, by intro w; go_simp⟩, fun _ => rfl⟩ ?_
          refine wpAnyIn_ready (rs := [3, 7]) (by decide +kernel) (by simp) (AllReadyIn.cons rfl (fun K hK => ?_) (AllReadyIn.cons rfl (fun K hK => ?_) AllReadyIn.nil))
          · skip
            go_simp
            refine hK _ _ ?_
            clear hK K
            refine wpAnyIn_ready (rs := [7]) (by decide +kernel) (by simp) (AllReadyIn.cons rfl (fun K hK => ?_) AllReadyIn.nil)
            go_simp
            refine hK _ _ ?_
            clear hK K
            refine wpAnyIn_ready (rs := [8]) (by decide +kernel) (by simp) (AllReadyIn.cons rfl (fun K hK => ?_) AllReadyIn.nil)
            go_simp
            refine hK _ _ ?_
            clear hK K
            refine wpAnyIn_ready (rs := [9]) (by decide +kernel) (by simp) (AllReadyIn.cons rfl (fun K hK => ?_) AllReadyIn.nil)
            go_simp
            refine hK _ _ ?_
            clear hK K
            refine wpAnyIn_ready (rs := [10]) (by decide +kernel) (by simp) (AllReadyIn.cons rfl (fun K hK => ?_) AllReadyIn.nil)
            go_simp
            refine hK _ _ ?_
            clear hK K
            refine wpAnyIn_ready (rs := [11]) (by decide +kernel) (by simp) (AllReadyIn.cons rfl (fun K hK => ?_) AllReadyIn.nil)
            go_simp
            refine hK _ _ ?_
            clear hK K
            refine wpAnyIn_ready (rs := [12]) (by decide +kernel) (by simp) (AllReadyIn.cons rfl (fun K hK => ?_) AllReadyIn.nil)
            go_simp
            refine hK _ _ ?_
            clear hK K
            refine wpAnyIn_ready (rs := [13]) (by decide +kernel) (by simp) (AllReadyIn.cons rfl (fun K hK => ?_) AllReadyIn.nil)
            go_simp
            refine hK _ _ ?_
            clear hK K
            refine wpAnyIn_ready (rs := [14]) (by decide +kernel) (by simp) (AllReadyIn.cons rfl (fun K hK => ?_) AllReadyIn.nil)
            go_simp
            refine hK _ _ ?_
            clear hK K
            refine wpAnyIn_ready (rs := [15]) (by decide +kernel) (by simp) (AllReadyIn.cons rfl (fun K hK => ?_) AllReadyIn.nil)
            go_simp
            refine hK _ _ ?_
            clear hK K
            refine wpAnyIn_ready (rs := [16]) (by decide +kernel) (by simp) (AllReadyIn.cons rfl (fun K hK => ?_) AllReadyIn.nil)
            go_simp
            refine hK _ _ ?_
            clear hK K
            exact wpAnyIn_done (by decide +kernel) ⟨rfl, rfl, rfl⟩ _
          · skip
            go_simp
            refine hK _ _ ?_
            clear hK K
            refine wpAnyIn_take (i := 8) (v := (.pointer (some ⟨g, k * 5, none⟩))) rfl rfl (by decide +kernel) (by decide +kernel) (by decide +kernel) (fun _ _ _ h => nomatch h.1) ⟨Or.inl ⟨by rfl, by intro w; go_simp⟩, fun _ => rfl⟩ ?_
            refine wpAnyIn_take (i := 9) (v := (.pointer (some ⟨g, k * 5 + 2, none⟩))) rfl rfl (by decide +kernel) (by decide +kernel) (by decide +kernel) (fun _ _ _ h => nomatch h.1) ⟨Or.inl ⟨by rfl, by intro w; go_simp⟩, fun _ => rfl⟩ ?_
            refine wpAnyIn_ready (rs := [3, 10]) (by decide +kernel) (by simp) (AllReadyIn.cons rfl (fun K hK => ?_) (AllReadyIn.cons rfl (fun K hK => ?_) AllReadyIn.nil))
            · skip
              go_simp
              refine hK _ _ ?_
              clear hK K
              refine wpAnyIn_ready (rs := [10]) (by decide +kernel) (by simp) (AllReadyIn.cons rfl (fun K hK => ?_) AllReadyIn.nil)
              go_simp
              refine hK _ _ ?_
              clear hK K
              refine wpAnyIn_ready (rs := [11]) (by decide +kernel) (by simp) (AllReadyIn.cons rfl (fun K hK => ?_) AllReadyIn.nil)
              go_simp
              refine hK _ _ ?_
              clear hK K
              refine wpAnyIn_ready (rs := [12]) (by decide +kernel) (by simp) (AllReadyIn.cons rfl (fun K hK => ?_) AllReadyIn.nil)
              go_simp
              refine hK _ _ ?_
              clear hK K
              refine wpAnyIn_ready (rs := [13]) (by decide +kernel) (by simp) (AllReadyIn.cons rfl (fun K hK => ?_) AllReadyIn.nil)
              go_simp
              refine hK _ _ ?_
              clear hK K
              refine wpAnyIn_ready (rs := [14]) (by decide +kernel) (by simp) (AllReadyIn.cons rfl (fun K hK => ?_) AllReadyIn.nil)
              go_simp
              refine hK _ _ ?_
              clear hK K
              refine wpAnyIn_ready (rs := [15]) (by decide +kernel) (by simp) (AllReadyIn.cons rfl (fun K hK => ?_) AllReadyIn.nil)
              go_simp
              refine hK _ _ ?_
              clear hK K
              refine wpAnyIn_ready (rs := [16]) (by decide +kernel) (by simp) (AllReadyIn.cons rfl (fun K hK => ?_) AllReadyIn.nil)
              go_simp
              refine hK _ _ ?_
              clear hK K
              exact wpAnyIn_done (by decide +kernel) ⟨rfl, rfl, rfl⟩ _
            · skip
              go_simp
              refine hK _ _ ?_
              clear hK K
              refine wpAnyIn_ready (rs := [3]) (by decide +kernel) (by simp) (AllReadyIn.cons rfl (fun K hK => ?_) AllReadyIn.nil)
              go_simp
              refine hK _ _ ?_
              clear hK K
              refine wpAnyIn_ready (rs := [11]) (by decide +kernel) (by simp) (AllReadyIn.cons rfl (fun K hK => ?_) AllReadyIn.nil)
              go_simp
              refine hK _ _ ?_
              clear hK K
              refine wpAnyIn_ready (rs := [12]) (by decide +kernel) (by simp) (AllReadyIn.cons rfl (fun K hK => ?_) AllReadyIn.nil)
              go_simp
              refine hK _ _ ?_
              clear hK K
              refine wpAnyIn_ready (rs := [13]) (by decide +kernel) (by simp) (AllReadyIn.cons rfl (fun K hK => ?_) AllReadyIn.nil)
              go_simp
              refine hK _ _ ?_
              clear hK K
              refine wpAnyIn_ready (rs := [14]) (by decide +kernel) (by simp) (AllReadyIn.cons rfl (fun K hK => ?_) AllReadyIn.nil)
              go_simp
              refine hK _ _ ?_
              clear hK K
              refine wpAnyIn_ready (rs := [15]) (by decide +kernel) (by simp) (AllReadyIn.cons rfl (fun K hK => ?_) AllReadyIn.nil)
              go_simp
              refine hK _ _ ?_
              clear hK K
              refine wpAnyIn_ready (rs := [16]) (by decide +kernel) (by simp) (AllReadyIn.cons rfl (fun K hK => ?_) AllReadyIn.nil)
              go_simp
              refine hK _ _ ?_
              clear hK K
              exact wpAnyIn_done (by decide +kernel) ⟨rfl, rfl, rfl⟩ _
        gi_wp2
        refine ⟨YXK.out.trans ((KeepsOthers.setCell X _ _).trans ((KeepsOthers.setCell _ _ _).trans ((KeepsOthers.setCell _ _ _).trans (KeepsOthers.drew _)))), ?_, ⟨?_, ?_, ?_⟩, ?_, ?_, ?_⟩
        · have e := HNT.out
          simp at e
          rw [e]; exact HN4.out
        · exact skeep (a := ⟨g, k * 5 + 4, none⟩) _ (skeep (a := ⟨g, k * 5 + 3, none⟩) _ (skeep (a := ⟨g, k * 5 + 2, none⟩) _ YX0.out (by simp; omega)) (by simp; omega)) (by simp; omega)
        · exact skeep (a := ⟨g, k * 5 + 4, none⟩) _ (skeep (a := ⟨g, k * 5 + 3, none⟩) _ (skeep (a := ⟨g, k * 5 + 2, none⟩) _ YX1.out (by simp; omega)) (by simp; omega)) (by simp; omega)
        · exact skeep (a := ⟨g, k * 5 + 4, none⟩) _ (skeep (a := ⟨g, k * 5 + 3, none⟩) _ (skeep (a := ⟨g, k * 5 + 2, none⟩) _ YX3.out (by simp; omega)) (by simp; omega)) (by simp; omega)
        · exact skeep (a := ⟨g, k * 5 + 4, none⟩) _ (skeep (a := ⟨g, k * 5 + 3, none⟩) _ (skeep (a := ⟨g, k * 5 + 2, none⟩) _ YXH.out (by simp; omega)) (by simp; omega)) (by simp; omega)
        · rw [HST.out, show rcP pn sx ⟨pn, pt, false, pst, pl⟩ = ⟨pn, pt, true, sx, pt⟩ by simp [rcP]]; exact HP4.out
        · exact (((YXU.out.setCell (p := ⟨g, k * 5 + 2, none⟩) (fun _ => ⟨hm0, rfl⟩) _).setCell (p := ⟨g, k * 5 + 3, none⟩) (fun _ => ⟨hm0, rfl⟩) _).setCell (p := ⟨g, k * 5 + 4, none⟩) (fun _ => ⟨hm0, rfl⟩) _).drew
      · have HN4 := Lib.hid (((HNB.out.setCell (a := ⟨g, k * 5 + 2, none⟩) (by simp; omega) (by simp; omega) (.bool true)).setCell (a := ⟨g, k * 5 + 3, none⟩) (by simp; omega) (by simp; omega) (.int .i64 sx)).setCell (a := ⟨g, k * 5 + 4, none⟩) (by simp; omega) (by simp; omega) (.int .i64 pt))
        have HP4 := Lib.hid hP4
        clear hP4 hP3 hP2
        gi_wp2
        apply wpIn_same
        · gi_region_with_o (fail)
          all_goals exact ⟨rfl, rfl, rfl⟩
        gi_wp2
        apply wpIn_same
        · refine wpIn_region_any mo ?_
          change wpAnyIn _ _ _ _ _ _ _ _ _ (World.drew _)
          refine wpAnyIn_round l rfl (by intro i o h c; match i, h with | 0, h | 1, h | 2, h | 3, h | 4, h | 5, h | 6, h | 7, h | 8, h | 9, h | 10, h | 11, h | 12, h | 13, h | 14, h | 15, h | 16, h => cases h; intro e; cases e) _ _ _ _ ?_
          refine wpAnyIn_take (i := 0) (v := (.pointer (some ⟨g, k * 5, none⟩))) rfl rfl (by decide +kernel) (by decide +kernel) (by decide +kernel) (fun _ _ _ h => nomatch h.1) ⟨Or.inl ⟨by rfl, by intro w; go_simp⟩, fun _ => rfl⟩ ?_
          refine wpAnyIn_take (i := 1) (v := (.pointer (some ⟨g, k * 5, none⟩))) rfl rfl (by decide +kernel) (by decide +kernel) (by decide +kernel) (fun _ _ _ h => nomatch h.1) ⟨Or.inl ⟨by rfl, by intro w; go_simp⟩, fun _ => rfl⟩ ?_
          refine wpAnyIn_take (i := 2) (v := (.pointer (some ⟨g, k * 5, none⟩))) rfl rfl (by decide +kernel) (by decide +kernel) (by decide +kernel) (fun _ _ _ h => nomatch h.1) ⟨Or.inl ⟨by rfl, by intro w; go_simp⟩, fun _ => rfl⟩ ?_
          refine wpAnyIn_take (i := 4) (v := (.pointer (some ⟨g, k * 5, none⟩))) rfl rfl (by decide +kernel) (by decide +kernel) (by decide +kernel) (fun _ _ _ h => nomatch h.1) ⟨Or.inl ⟨by rfl, by intro w; go_simp⟩, fun _ => rfl⟩ ?_
          refine wpAnyIn_take (i := 5) (v := (.pointer (some ⟨g, k * 5, none⟩))) rfl rfl (by decide +kernel) (by decide +kernel) (by decide +kernel) (fun _ _ _ h => nomatch h.1) ⟨Or.inl ⟨by rfl, by intro w; go_simp⟩, fun _ => rfl⟩ ?_
          refine wpAnyIn_take (i := 6) (v := (.pointer (some ⟨g, k * 5 + 1, none⟩))) rfl rfl (by decide +kernel) (by decide +kernel) (by decide +kernel) (fun _ _ _ h => nomatch h.1) ⟨Or.inl ⟨by rfl, by intro w; go_simp⟩, fun _ => rfl⟩ ?_
          refine wpAnyIn_ready (rs := [3, 7]) (by decide +kernel) (by simp) (AllReadyIn.cons rfl (fun K hK => ?_) (AllReadyIn.cons rfl (fun K hK => ?_) AllReadyIn.nil))
          · skip
            go_simp
            refine hK _ _ ?_
            clear hK K
            refine wpAnyIn_ready (rs := [7]) (by decide +kernel) (by simp) (AllReadyIn.cons rfl (fun K hK => ?_) AllReadyIn.nil)
            go_simp
            refine hK _ _ ?_
            clear hK K
            refine wpAnyIn_ready (rs := [8]) (by decide +kernel) (by simp) (AllReadyIn.cons rfl (fun K hK => ?_) AllReadyIn.nil)
            go_simp
            refine hK _ _ ?_
            clear hK K
            refine wpAnyIn_ready (rs := [9]) (by decide +kernel) (by simp) (AllReadyIn.cons rfl (fun K hK => ?_) AllReadyIn.nil)
            go_simp
            refine hK _ _ ?_
            clear hK K
            refine wpAnyIn_ready (rs := [10]) (by decide +kernel) (by simp) (AllReadyIn.cons rfl (fun K hK => ?_) AllReadyIn.nil)
            go_simp
            refine hK _ _ ?_
            clear hK K
            refine wpAnyIn_ready (rs := [11]) (by decide +kernel) (by simp) (AllReadyIn.cons rfl (fun K hK => ?_) AllReadyIn.nil)
            go_simp
            refine hK _ _ ?_
            clear hK K
            refine wpAnyIn_ready (rs := [12]) (by decide +kernel) (by simp) (AllReadyIn.cons rfl (fun K hK => ?_) AllReadyIn.nil)
            go_simp
            refine hK _ _ ?_
            clear hK K
            refine wpAnyIn_ready (rs := [13]) (by decide +kernel) (by simp) (AllReadyIn.cons rfl (fun K hK => ?_) AllReadyIn.nil)
            go_simp
            refine hK _ _ ?_
            clear hK K
            refine wpAnyIn_ready (rs := [14]) (by decide +kernel) (by simp) (AllReadyIn.cons rfl (fun K hK => ?_) AllReadyIn.nil)
            go_simp
            refine hK _ _ ?_
            clear hK K
            refine wpAnyIn_ready (rs := [15]) (by decide +kernel) (by simp) (AllReadyIn.cons rfl (fun K hK => ?_) AllReadyIn.nil)
            go_simp
            refine hK _ _ ?_
            clear hK K
            refine wpAnyIn_ready (rs := [16]) (by decide +kernel) (by simp) (AllReadyIn.cons rfl (fun K hK => ?_) AllReadyIn.nil)
            go_simp
            refine hK _ _ ?_
            clear hK K
            exact wpAnyIn_done (by decide +kernel) ⟨rfl, rfl, rfl⟩ _
          · skip
            go_simp
            refine hK _ _ ?_
            clear hK K
            refine wpAnyIn_take (i := 8) (v := (.pointer (some ⟨g, k * 5, none⟩))) rfl rfl (by decide +kernel) (by decide +kernel) (by decide +kernel) (fun _ _ _ h => nomatch h.1) ⟨Or.inl ⟨by rfl, by intro w; go_simp⟩, fun _ => rfl⟩ ?_
            refine wpAnyIn_take (i := 9) (v := (.pointer (some ⟨g, k * 5 + 2, none⟩))) rfl rfl (by decide +kernel) (by decide +kernel) (by decide +kernel) (fun _ _ _ h => nomatch h.1) ⟨Or.inl ⟨by rfl, by intro w; go_simp⟩, fun _ => rfl⟩ ?_
            refine wpAnyIn_ready (rs := [3, 10]) (by decide +kernel) (by simp) (AllReadyIn.cons rfl (fun K hK => ?_) (AllReadyIn.cons rfl (fun K hK => ?_) AllReadyIn.nil))
            · skip
              go_simp
              refine hK _ _ ?_
              clear hK K
              refine wpAnyIn_ready (rs := [10]) (by decide +kernel) (by simp) (AllReadyIn.cons rfl (fun K hK => ?_) AllReadyIn.nil)
              go_simp
              refine hK _ _ ?_
              clear hK K
              refine wpAnyIn_ready (rs := [11]) (by decide +kernel) (by simp) (AllReadyIn.cons rfl (fun K hK => ?_) AllReadyIn.nil)
              go_simp
              refine hK _ _ ?_
              clear hK K
              refine wpAnyIn_ready (rs := [12]) (by decide +kernel) (by simp) (AllReadyIn.cons rfl (fun K hK => ?_) AllReadyIn.nil)
              go_simp
              refine hK _ _ ?_
              clear hK K
              refine wpAnyIn_ready (rs := [13]) (by decide +kernel) (by simp) (AllReadyIn.cons rfl (fun K hK => ?_) AllReadyIn.nil)
              go_simp
              refine hK _ _ ?_
              clear hK K
              refine wpAnyIn_ready (rs := [14]) (by decide +kernel) (by simp) (AllReadyIn.cons rfl (fun K hK => ?_) AllReadyIn.nil)
              go_simp
              refine hK _ _ ?_
              clear hK K
              refine wpAnyIn_ready (rs := [15]) (by decide +kernel) (by simp) (AllReadyIn.cons rfl (fun K hK => ?_) AllReadyIn.nil)
              go_simp
              refine hK _ _ ?_
              clear hK K
              refine wpAnyIn_ready (rs := [16]) (by decide +kernel) (by simp) (AllReadyIn.cons rfl (fun K hK => ?_) AllReadyIn.nil)
              go_simp
              refine hK _ _ ?_
              clear hK K
              exact wpAnyIn_done (by decide +kernel) ⟨rfl, rfl, rfl⟩ _
            · skip
              go_simp
              refine hK _ _ ?_
              clear hK K
              refine wpAnyIn_ready (rs := [3]) (by decide +kernel) (by simp) (AllReadyIn.cons rfl (fun K hK => ?_) AllReadyIn.nil)
              go_simp
              refine hK _ _ ?_
              clear hK K
              refine wpAnyIn_ready (rs := [11]) (by decide +kernel) (by simp) (AllReadyIn.cons rfl (fun K hK => ?_) AllReadyIn.nil)
              go_simp
              refine hK _ _ ?_
              clear hK K
              refine wpAnyIn_ready (rs := [12]) (by decide +kernel) (by simp) (AllReadyIn.cons rfl (fun K hK => ?_) AllReadyIn.nil)
              go_simp
              refine hK _ _ ?_
              clear hK K
              refine wpAnyIn_ready (rs := [13]) (by decide +kernel) (by simp) (AllReadyIn.cons rfl (fun K hK => ?_) AllReadyIn.nil)
              go_simp
              refine hK _ _ ?_
              clear hK K
              refine wpAnyIn_ready (rs := [14]) (by decide +kernel) (by simp) (AllReadyIn.cons rfl (fun K hK => ?_) AllReadyIn.nil)
              go_simp
              refine hK _ _ ?_
              clear hK K
              refine wpAnyIn_ready (rs := [15]) (by decide +kernel) (by simp) (AllReadyIn.cons rfl (fun K hK => ?_) AllReadyIn.nil)
              go_simp
              refine hK _ _ ?_
              clear hK K
              refine wpAnyIn_ready (rs := [16]) (by decide +kernel) (by simp) (AllReadyIn.cons rfl (fun K hK => ?_) AllReadyIn.nil)
              go_simp
              refine hK _ _ ?_
              clear hK K
              exact wpAnyIn_done (by decide +kernel) ⟨rfl, rfl, rfl⟩ _
        gi_wp2
        obtain ⟨c0, c1, c3⟩ := HC.out
        refine ⟨(KeepsOthers.setCell W _ _).trans ((KeepsOthers.setCell _ _ _).trans ((KeepsOthers.setCell _ _ _).trans ((KeepsOthers.drew _).trans (KeepsOthers.drew _)))), ?_, ⟨?_, ?_, ?_⟩, ?_, ?_, ?_⟩
        · have e := HNT.out
          simp at e
          rw [e]; exact HN4.out
        · exact skeep (a := ⟨g, k * 5 + 4, none⟩) _ (skeep (a := ⟨g, k * 5 + 3, none⟩) _ (skeep (a := ⟨g, k * 5 + 2, none⟩) _ c0 (by simp; omega)) (by simp; omega)) (by simp; omega)
        · exact skeep (a := ⟨g, k * 5 + 4, none⟩) _ (skeep (a := ⟨g, k * 5 + 3, none⟩) _ (skeep (a := ⟨g, k * 5 + 2, none⟩) _ c1 (by simp; omega)) (by simp; omega)) (by simp; omega)
        · exact skeep (a := ⟨g, k * 5 + 4, none⟩) _ (skeep (a := ⟨g, k * 5 + 3, none⟩) _ (skeep (a := ⟨g, k * 5 + 2, none⟩) _ c3 (by simp; omega)) (by simp; omega)) (by simp; omega)
        · exact skeep (a := ⟨g, k * 5 + 4, none⟩) _ (skeep (a := ⟨g, k * 5 + 3, none⟩) _ (skeep (a := ⟨g, k * 5 + 2, none⟩) _ HH.out (by simp; omega)) (by simp; omega)) (by simp; omega)
        · rw [HST.out, show rcP pn sx ⟨pn, pt, true, pst, pl⟩ = ⟨pn, pt, true, sx, pt⟩ by simp [rcP]]; exact HP4.out
        · exact (((HUP.out.setCell (p := ⟨g, k * 5 + 2, none⟩) (fun _ => ⟨hm0, rfl⟩) _).setCell (p := ⟨g, k * 5 + 3, none⟩) (fun _ => ⟨hm0, rfl⟩) _).setCell (p := ⟨g, k * 5 + 4, none⟩) (fun _ => ⟨hm0, rfl⟩) _).drew.drew
    · have ht : (pn != nd) = true := by simp [hjn]
      have HJ := Lib.hid hjn
      clear hjn
      gi_wp2
      gi_region_with_o (fail)
      all_goals
        gi_wp2
        refine ⟨KeepsOthers.drew _, ?_, HC.out, HH.out, ?_, HUP.out.drew⟩
        · rw [HNT.out]; simp only [HJ.out, false_and, if_false, List.append_nil]; exact HNB.out
        · rw [HST.out, show rcP nd sx ⟨pn, pt, pb, pst, pl⟩ = ⟨pn, pt, pb, pst, pl⟩ by unfold rcP; simp [HJ.out], set_same HK.out]; exact HP.out
  case done =>
    rintro D W hD ⟨⟨v, hv, hown⟩, ⟨c0, c1, c3⟩, hc, hp, hu⟩ hK
    rw [List.length_map, List.length_range, ← hlen, List.take_of_length_le (Nat.le_refl _)] at hown
    rw [List.length_map, List.length_range, ← hlen, rcM_all, hlen] at hp
    have d0 := cell_of_one hv
    have HK := Lib.hid hK
    have HO := Lib.hid hown
    have HC := Lib.hid hc
    have HP := Lib.hid hp
    have HUP := Lib.hid hu
    have hws := hu.size
    clear hv hown c1 c0 c3 hc hp hu hK
    gi_wp2
    refine ⟨by simp, .inl ⟨_, _, rfl, run_takeDeferred (show W.heap[D]? = _ from HK.out), ?_⟩⟩
    refine ⟨_, results_tmp rfl _ _ _, v, rfl, ?_, ?_, ?_, ?_⟩
    · exact own_base (own_putObj (W := W) HO.out HK.out rfl _) (by omega)
    · exact putObj_other (w := W) HC.out (by omega) _
    · exact HP.out.same (w' := W.putObj D (.deferred none)) fun cs hh => putObj_other (w := W) hh (fun e => by subst e; have := HK.out; rw [hh] at this; cases this) _
    · exact HU1.out.trans (HUP.out.putObj (by omega) _) (fun i hi e => e)
  case stop =>
    rintro D c k W hD hk hF hK
    exact hF.elim
end Go.Proofs.Ytpnnmcicpjebmaa
