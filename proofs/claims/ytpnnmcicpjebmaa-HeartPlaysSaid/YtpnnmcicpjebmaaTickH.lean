/-
  CONTRACT of heart's Tick.
-/
import Derived.Test.YtpnnmcicpjebmaaBeatH
import Derived.Laws.EntriesVeiled
set_option linter.unusedSimpArgs false
set_option linter.unusedVariables false
namespace Go.Proofs.Ytpnnmcicpjebmaa
open Go.RowKit
attribute [local go_sem] Oper.semAt_some

def OutOk (w0 w' : World) (n ev le st : Int) (out : Value) : Prop :=
  (btDue ev le st ∧ ∃ g, out = .slice (some ⟨g, 0, none⟩) 1 1 ∧ w0.heap.size ≤ g ∧ Beat1 w' w0.heap.size g n st) ∨ (¬ btDue ev le st ∧ out = .slice none 0 0)

theorem beatH_any (b : Nat) (n ev le : Int) (v : Value) (st : Int) (w : World) (hH : Hrt w b n ev le v) (hn : 1 ≤ n ∧ n ≤ 127) (hle : 0 ≤ le ∧ le ≤ 65535) :
    Calls Try.prog 49 #[.pointer (some ⟨b, 0, none⟩), .int .i64 st] w fun e w' => ∃ out, e = .returned out ∧ OutOk w w' n ev le st out ∧ Hrt w' b n ev (btL ev le) v ∧ Upd (· = b) w w' := by
  by_cases h : btDue ev le st
  · refine (beatH_due b n ev le v st w hH hn hle h).mono ?_
    rintro e w' ⟨g, rfl, hg, hB, hH', hu⟩
    refine ⟨_, rfl, .inl ⟨h, g, rfl, hg, hB⟩, ?_, hu⟩
    have : btL ev le = ev := by unfold btL; rw [if_neg h.1, if_neg h.2.1]
    rw [this]; exact hH'
  · refine (beatH_quiet b n ev le v st w hH hn hle h).mono ?_
    rintro e w' ⟨rfl, hH', hu⟩
    exact ⟨_, rfl, .inr ⟨h, rfl⟩, hH', hu⟩

def tkP (p : Pr) : Pr := if p.there then (if p.left = 1 then { p with there := false, left := 0 } else { p with left := p.left - 1 }) else p
def tkN (ps : List Pr) : List (Int × Int) := (ps.filter fun p => p.there && decide (p.left = 1)).map fun p => (2, p.node)
def tkM (ps : List Pr) (k : Nat) : List Pr := (ps.take k).map tkP ++ ps.drop k
theorem tkM_len (ps : List Pr) (k : Nat) : (tkM ps k).length = ps.length := by unfold tkM; simp; omega
theorem tkM_at (ps : List Pr) (k : Nat) (h : k < ps.length) : (tkM ps k)[k]? = some ps[k] := by
  unfold tkM
  rw [List.getElem?_append_right (by simp; omega)]
  simp [Nat.min_eq_left (Nat.le_of_lt h), h]
theorem tkM_set (ps : List Pr) (k : Nat) (h : k < ps.length) : tkM ps (k + 1) = (tkM ps k).set k (tkP ps[k]) := by
  unfold tkM
  have hl : ((ps.take k).map tkP).length = k := by simp; omega
  rw [List.take_succ_eq_append_getElem h, List.map_append, List.drop_eq_getElem_cons h]
  generalize (ps.take k).map tkP = l at *
  rw [List.set_append, if_neg (by omega), hl, Nat.sub_self, List.append_assoc]
  rfl
theorem tkM_all (ps : List Pr) : tkM ps ps.length = ps.map tkP := by unfold tkM; simp
theorem tkN_take (ps : List Pr) (k : Nat) (h : k < ps.length) : tkN (ps.take (k + 1)) = tkN (ps.take k) ++ if ps[k].there = true ∧ ps[k].left = 1 then [(2, ps[k].node)] else [] := by
  unfold tkN
  rw [List.take_succ_eq_append_getElem h, List.filter_append, List.map_append]
  by_cases c : ps[k].there = true ∧ ps[k].left = 1
  · rw [if_pos c]; simp [c]
  · rw [if_neg c]
    have : (ps[k].there && decide (ps[k].left = 1)) = false := by
      by_cases c1 : ps[k].there = true
      · have c2 : ¬ ps[k].left = 1 := fun k' => c ⟨c1, k'⟩
        simp [c2]
      · simp [c1]
    simp [this]
theorem tkN_len (ps : List Pr) (k : Nat) : (tkN (ps.take k)).length ≤ k := by
  unfold tkN
  rw [List.length_map]
  exact Nat.le_trans (List.length_filter_le _ _) (List.length_take_le _ _)

theorem set_same {l : List Pr} {k : Nat} {p : Pr} (h : l[k]? = some p) : l.set k p = l := by
  apply List.ext_getElem?
  intro i
  by_cases e : i = k
  · subst e; rw [List.getElem?_set_self (List.getElem?_eq_some_iff.1 h).1, h]
  · rw [List.getElem?_set_ne (by omega)]

theorem NewsB.setCell {W : World} {B base : Nat} {l : List (Int × Int)} (h : NewsB W B base l) {a : Addr} (hn : B ≠ a.block) (hlt : a.block < base) (u : Value) : NewsB (W.setCell a u) B base l := by
  obtain ⟨v, hv, ho⟩ := h
  exact ⟨v, skeep _ hv hn, ownsRow_setCell_below ho hlt _⟩
theorem NewsB.ownF {B B0 base : Nat} {l : Nat → List (Int × Int)} : OwnFrom B (fun k W => NewsB W B0 base (l k)) := by
  rintro k W W' row ⟨v, hv, hr⟩ hg hrow
  refine ⟨v, blk_own hg hrow hv, hr.1, ?_⟩
  rcases hr.2 with h | ⟨g, cap, cur, rfl, hb, hh, rest⟩
  · exact .inl h
  · exact .inr ⟨g, cap, cur, rfl, hb, blk_own hg hrow hh, rest⟩

/-- The peers' block. -/
def GS (m g k : Nat) : Prop := m ≠ 0 ∧ k = g

def tkTmps (b g : Nat) (st : Int) (out : Value) (B : Nat) (j : Nat) : Array Value :=
  #[.pointer (some ⟨b, 0, none⟩), .int .i64 st, undef, undef, .slice none 0 0, .slice none 0 0, out, .pointer (some ⟨B, 0, none⟩), .pointer (some ⟨B + 1, 0, none⟩), .pointer (some ⟨g, j * 5, none⟩), .pointer (some ⟨b, 0, none⟩), .int .i64 st, out,
    .func (.func 50) #[] #[.pointer (some ⟨B, 0, none⟩)], .pointer (some ⟨b, 0, none⟩), .func (.func 55) #[] #[.pointer (some ⟨B + 1 + 1, 0, none⟩)], .pointer (some ⟨g, j * 5, none⟩), undef, undef, undef, undef, undef, undef, undef, undef, undef, undef, undef, undef, undef, undef, undef, undef, undef, undef, undef, undef, undef, undef, undef, undef, undef, undef, undef, undef]

theorem OutOk.upd {w0 w1 W : World} {n ev le st : Int} {out : Value} {a : Option Addr} {m g : Nat} {ps : List Pr} (h : OutOk w0 w1 n ev le st out) (hP : PrAt w1 a m g ps) (hu : Upd (GS m g) w1 W) : OutOk w0 W n ev le st out := by
  rcases h with ⟨h1, gf, h2, h3, d, h4, h5, h6⟩ | h
  · refine .inl ⟨h1, gf, h2, h3, d, hu.block_some h4 (fun k => ?_), hu.block_some h5 (fun k => ?_), h6⟩
    · rcases hP.ne h4 (by decide) with h | h
      · exact k.1 h
      · exact h k.2.symm
    · rcases hP.ne h5 (by decide) with h | h
      · exact k.1 h
      · exact h k.2.symm
  · exact .inr h
theorem own_base {w : World} {base base' e sz n : Nat} {v : Value} {xs : List Value} (h : w.ownsRow base e sz v n xs) (hb : base' ≤ base) : w.ownsRow base' e sz v n xs := by
  refine ⟨h.1, ?_⟩
  rcases h.2 with h | ⟨g, cap, cur, rfl, hg, rest⟩
  · exact .inl h
  · exact .inr ⟨g, cap, cur, rfl, by omega, rest⟩
theorem own_putObj {W : World} {base e sz n D : Nat} {v : Value} {xs : List Value} {o : Obj} (h : W.ownsRow base e sz v n xs) (hK : W.heap[D]? = some o) (ho : o.isCells = false) (x : Obj) : (W.putObj D x).ownsRow base e sz v n xs := by
  refine ⟨h.1, ?_⟩
  rcases h.2 with h | ⟨g, cap, cur, rfl, hg, hh, rest⟩
  · exact .inl h
  · refine .inr ⟨g, cap, cur, rfl, hg, putObj_other hh (fun e => ?_) x, rest⟩
    subst e; rw [hh] at hK; cases hK; cases ho

set_option maxRecDepth 100000 in
set_option maxHeartbeats 4000000 in
theorem tickH_any (b g : Nat) (n ev le : Int) (a : Option Addr) (m c : Nat) (ps : List Pr) (st : Int) (w : World) (hH : Hrt w b n ev le (.slice a m c)) (hP : PrAt w a m g ps) (hn : 1 ≤ n ∧ n ≤ 127) (hle : 0 ≤ le ∧ le ≤ 65535) (hm : (m : Int) ≤ 1000)
    (hps : ∀ p ∈ ps, p.there = true → 1 ≤ p.left ∧ p.left ≤ 65535) :
    Calls Try.prog 15 #[.pointer (some ⟨b, 0, none⟩), .int .i64 st] w fun e w' => ∃ out nv, e = .returned (.tuple #[out, nv]) ∧ OutOk w w' n ev le st out ∧ w'.ownsRow w.heap.size 36 2 nv (tkN ps).length (nvals (tkN ps)) ∧
      Hrt w' b n ev (btL ev le) (.slice a m c) ∧ PrAt w' a m g (ps.map tkP) ∧ Upd (fun k => k = b ∨ (m ≠ 0 ∧ k = g)) w w' := by
  have hlen : ps.length = m := hP.1
  have HP0 := Lib.hid hP
  have HPS := Lib.hid hps
  have hgb := hP.ne hH (by decide)
  have hbw := hH.lt
  have hgw : m = 0 ∨ g < w.heap.size := by
    by_cases h0 : m = 0
    · exact .inl h0
    · exact .inr (hP.free (by omega) 0).2
  have HB := Lib.hid (beatH_any b n ev le (.slice a m c) st w hH hn hle)
  clear hH hP hps
  refine callsIn_wide (n := 0) |>.1 ?_
  refine callsIn_of_wp_marks Try.func15 rfl trivial ?_ rfl
  simp only [Try.ntmps15, List.size_toArray, List.length_cons, List.length_nil, Nat.reduceAdd, Nat.reduceSub, Array.replicate_succ, Array.replicate_zero, List.push_toArray, List.append_toArray, List.nil_append, List.cons_append]
  gi_wp2_with fail
  refine ⟨trivial, rfl, (callsIn_wide.2 HB.out).mono ?_⟩
  rintro e w1 ⟨out, rfl, hout, hH1, hu1⟩
  have HOUT := Lib.hid hout
  have HH1 := Lib.hid hH1
  have HU1 := Lib.hid hu1
  have hP1 := HP0.out.upd hu1 hgb
  have HP1 := Lib.hid hP1
  have s1 := hu1.size
  clear hout hH1 hu1 hP1
  gi_wp2_with fail
  refine ⟨trivial, rfl, (callsIn_wide.2 (each_any _ _)).mono ?_⟩
  rintro e w' ⟨rfl, rfl⟩
  gi_wp2_with fail
  obtain ⟨h0, h1, h2, hs, hb⟩ := new3 w1 (.cells #[.slice none 0 0] 33) (.cells #[.func (.func 50) #[] #[.pointer (some ⟨w1.heap.size, 0, none⟩)]] 87) (.cells #[.pointer (some ⟨b, 0, none⟩)] 23)
  have hc : Hrt (((w1.alloc (.cells #[.slice none 0 0] 33)).alloc (.cells #[.func (.func 50) #[] #[.pointer (some ⟨w1.heap.size, 0, none⟩)]] 87)).alloc (.cells #[.pointer (some ⟨b, 0, none⟩)] 23)) b n ev (btL ev le) (.slice a m c) := (hb.block b HH1.out.lt).trans HH1.out
  have hp : PrAt (((w1.alloc (.cells #[.slice none 0 0] 33)).alloc (.cells #[.func (.func 50) #[] #[.pointer (some ⟨w1.heap.size, 0, none⟩)]] 87)).alloc (.cells #[.pointer (some ⟨b, 0, none⟩)] 23)) a m g ps := HP1.out.same fun cs hh => bkeep' hb hh
  obtain ⟨W0, hW0⟩ : ∃ W0, (((w1.alloc (.cells #[.slice none 0 0] 33)).alloc (.cells #[.func (.func 50) #[] #[.pointer (some ⟨w1.heap.size, 0, none⟩)]] 87)).alloc (.cells #[.pointer (some ⟨b, 0, none⟩)] 23)) = W0 := ⟨_, rfl⟩
  rw [hW0] at h0 h1 h2 hs hb hc hp ⊢
  clear hW0
  have hn0 : n ≠ 0 := by omega
  have hg1 : m = 0 ∨ g < w1.heap.size := hgw.imp id (fun h => by omega)
  have hown0 : NewsB W0 w1.heap.size (w1.heap.size + 3) (tkN (ps.take 0)) := ⟨_, h0, by simpa [tkN, nvals] using World.ownsRow_nil W0 (w1.heap.size + 3) 36 2⟩
  have hb1 : b < w1.heap.size := HH1.out.lt
  refine wp_range (full := (List.range m).map (pitem g)) (Rd := fun _ W => RdH (w1.heap.size + 2) b n a m c W) rfl (enters_of Try.func55 (by kernel_rfl) rfl) (iter_any (w1.heap.size + 2) b g n hn0 a m c hm HP1.out.where_ W0) (Below.refl _ _) (fun k hk => by simp [pitem])
    (fun k W => NewsB W w1.heap.size (w1.heap.size + 3) (tkN (ps.take k)) ∧ (W.heap[w1.heap.size + 1]? = some (.cells #[.func (.func 50) #[] #[.pointer (some ⟨w1.heap.size, 0, none⟩)]] 87 (0, 0)) ∧ W.heap[w1.heap.size + 2]? = some (.cells #[.pointer (some ⟨b, 0, none⟩)] 23 (0, 0))) ∧ Hrt W b n ev (btL ev le) (.slice a m c) ∧ PrAt W a m g (tkM ps k) ∧ Upd (GS m g) w1 W)
    (fun c k W => False)
    (NewsB.ownF.and (((own_blk _ _).and (own_blk _ _)).and (Hrt.ownF.and (PrAt.ownF.and (own_upd (by omega))))))
    (fun c => own_pure _)
    (fun k W hI => ⟨cell_of_one hI.2.1.2, hI.2.2.1.cells.1, hI.2.2.1.cells.2.2.2⟩)
    ⟨hown0, ⟨h1, h2⟩, hc, by simpa [tkM] using hp, Upd.ofBelow' hb⟩
    (fun k => { tmps := tkTmps b g st out w1.heap.size k, defers := [] }) ?assign ?body ?done ?stop
  case assign =>
    intro l k hk W K hK
    have hj : ((List.range m).map (pitem g))[k] = pitem g k := by simp
    rw [hj]
    clear hk hj
    unfold pitem tkTmps at *
    gi_wp2
    exact hK
  case body =>
    rintro l k W hk hsz ⟨hnews, ⟨c1, c2⟩, hc, hp, hu⟩
    have hk' : k < ps.length := by rw [hlen]; simpa using hk
    have hpk := tkM_at ps k hk'
    have hmem : ps[k] ∈ ps := List.getElem_mem hk'
    have hset1 := tkM_set ps k hk'
    have hnt := tkN_take ps k hk'
    have hnl := tkN_len ps k
    obtain ⟨p, hpe⟩ : ∃ p, ps[k] = p := ⟨_, rfl⟩
    rw [hpe] at hpk hmem hset1 hnt
    have hbd := HPS.out p hmem
    obtain ⟨q0, q1, q2, q3, q4⟩ := hp.cell hpk
    have hm0 : m ≠ 0 := by omega
    have hg2 : g < w1.heap.size := hg1.resolve_left hm0
    have hgb2 : ¬ g = b := hgb.resolve_left hm0
    obtain ⟨hfr, hgl⟩ := hp.free (by omega) (k * 5 + 4)
    obtain ⟨hfr2, _⟩ := hp.free (by omega) (k * 5 + 2)
    have d1 := cell_of_one c1
    have HK := Lib.hid hpk
    have HC := Lib.hid (And.intro c1 c2)
    have HH := Lib.hid hc
    have HP := Lib.hid hp
    have HNB := Lib.hid hnews
    have HST := Lib.hid hset1
    have HNT := Lib.hid hnt
    have HUP := Lib.hid hu
    have mo : Try.prog.follows .mixedOrders = true := by kernel_rfl
    have hWs := hu.size
    obtain ⟨pn, pt, pb, pst, pl⟩ := p
    simp only at q0 q1 q2 q3 q4 hbd
    clear hpk hpe c1 c2 hc hp hmem hset1 hnt hnews hu
    unfold tkTmps
    cases pb
    · gi_wp2
      refine ⟨KeepsOthers.refl _, ?_, HC.out, HH.out, ?_, HUP.out⟩
      · rw [HNT.out]; simpa using HNB.out
      · rw [HST.out, show tkP ⟨pn, pt, false, pst, pl⟩ = ⟨pn, pt, false, pst, pl⟩ from rfl, set_same HK.out]; exact HP.out
    · obtain ⟨hl1, hl2⟩ := hbd rfl
      by_cases h1 : pl = 1
      · subst h1
        have hP2 := (HP.out.set HK.out 4 (.int .i64 0) (q := ⟨pn, pt, true, pst, 0⟩) (by omega) rfl)
        have hkm : k < (tkM ps k).length := (List.getElem?_eq_some_iff.1 HK.out).1
        have hP3 := hP2.set (i := k) (p := ⟨pn, pt, true, pst, 0⟩) (q := ⟨pn, pt, false, pst, 0⟩) (by rw [List.getElem?_set_self hkm]) 2 (.bool false) (by omega) rfl
        rw [List.set_set] at hP3
        have hN2 := (HNB.out.setCell (a := ⟨g, k * 5 + 4, none⟩) (by simp; omega) (by simp; omega) (.int .i64 0)).setCell (a := ⟨g, k * 5 + 2, none⟩) (by simp; omega) (by simp; omega) (.bool false)
        have HP3 := Lib.hid hP3
        have HN2 := Lib.hid hN2
        have hsm : (tkN (ps.take k)).length ≤ 1000 := by omega
        clear hP2 hP3 hN2
        have TL := Lib.hid (CallsIn.inRound (n := 0) l (callsIn_wide.2 (tell_any pn w1.heap.size (w1.heap.size + 3) (tkN (ps.take k)) ((W.setCell ⟨g, k * 5 + 4, none⟩ (.int .i64 0)).setCell ⟨g, k * 5 + 2, none⟩ (.bool false)).drew HN2.out hsm (by omega) (by show w1.heap.size + 3 ≤ ((W.setCell ⟨g, k * 5 + 4, none⟩ (.int .i64 0)).setCell ⟨g, k * 5 + 2, none⟩ (.bool false)).heap.size; simp; omega))))
        gi_wp2
        gi_region_with_o (refine ⟨trivial, rfl, TL.out.mono ?_⟩; rintro e w5 ⟨rfl, hN5, hk5, hu5⟩)
        all_goals
          have HN5 := Lib.hid hN5
          have HK5 := Lib.hid hk5
          have HU5 := Lib.hid hu5
          clear hN5 hk5 hu5
          gi_wp2
          obtain ⟨c1, c2⟩ := HC.out
          refine ⟨(KeepsOthers.setCell W _ _).trans ((KeepsOthers.setCell _ _ _).trans ((KeepsOthers.drew _).trans HK5.out)), ?_, ⟨?_, ?_⟩, ?_, ?_, ?_⟩
          · have e := HNT.out
            simp at e
            rw [e]; exact HN5.out
          · exact HU5.out.block_some (skeep (a := ⟨g, k * 5 + 2, none⟩) _ (skeep (a := ⟨g, k * 5 + 4, none⟩) _ c1 (by simp; omega)) (by simp; omega)) (by omega)
          · exact HU5.out.block_some (skeep (a := ⟨g, k * 5 + 2, none⟩) _ (skeep (a := ⟨g, k * 5 + 4, none⟩) _ c2 (by simp; omega)) (by simp; omega)) (by omega)
          · exact HU5.out.block_some (skeep (a := ⟨g, k * 5 + 2, none⟩) _ (skeep (a := ⟨g, k * 5 + 4, none⟩) _ HH.out (by simp; omega)) (by simp; omega)) (by omega)
          · rw [HST.out]; exact PrAt.upd (w := ((W.setCell ⟨g, k * 5 + 4, none⟩ (.int .i64 0)).setCell ⟨g, k * 5 + 2, none⟩ (.bool false)).drew) HP3.out HU5.out (.inr (by omega))
          · exact (((HUP.out.setCell (p := ⟨g, k * 5 + 4, none⟩) (fun _ => ⟨hm0, rfl⟩) _).setCell (p := ⟨g, k * 5 + 2, none⟩) (fun _ => ⟨hm0, rfl⟩) _).drew).trans HU5.out (fun i hi hS => by omega)
      · have h1b : (pl - 1 == 0) = false := by rw [beq_eq_false_iff_ne]; omega
        have hP2 := Lib.hid (HP.out.set HK.out 4 (.int .i64 (pl - 1)) (q := ⟨pn, pt, true, pst, pl - 1⟩) (by omega) rfl)
        have hN2 := Lib.hid (HNB.out.setCell (a := ⟨g, k * 5 + 4, none⟩) (by simp; omega) (by simp; omega) (.int .i64 (pl - 1)))
        have etk : Hid (tkP ⟨pn, pt, true, pst, pl⟩ = ⟨pn, pt, true, pst, pl - 1⟩) := by show tkP _ = _; unfold tkP; simp [h1]
        have H1 := Lib.hid h1
        clear h1
        gi_wp2
        obtain ⟨c1, c2⟩ := HC.out
        refine ⟨KeepsOthers.setCell W _ _, ?_, ⟨skeep (a := ⟨g, k * 5 + 4, none⟩) _ c1 (by simp; omega), skeep (a := ⟨g, k * 5 + 4, none⟩) _ c2 (by simp; omega)⟩, skeep (a := ⟨g, k * 5 + 4, none⟩) _ HH.out (by simp; omega), ?_, HUP.out.setCell (p := ⟨g, k * 5 + 4, none⟩) (fun _ => ⟨hm0, rfl⟩) _⟩
        · have e := HNT.out
          simp [H1.out] at e
          rw [e]; exact hN2.out
        · rw [HST.out, etk.out]; exact hP2.out
  case done =>
    rintro D W hD ⟨⟨v, hv, hown⟩, ⟨c1, c2⟩, hc, hp, hu⟩ hK
    rw [List.length_map, List.length_range, ← hlen, List.take_of_length_le (Nat.le_refl _)] at hown
    rw [List.length_map, List.length_range, ← hlen, tkM_all, hlen] at hp
    have d0 := cell_of_one hv
    have HK := Lib.hid hK
    have HO := Lib.hid hown
    have HC := Lib.hid hc
    have HP := Lib.hid hp
    have HUP := Lib.hid hu
    have hws := hu.size
    have mo : Try.prog.follows .mixedOrders = true := by kernel_rfl
    clear hv hown c1 c2 hc hp hu hK
    gi_wp2
    refine wpIn_region_noP ?_
    gi_region_with_o (fail)
    all_goals
      refine NoP.normal ?_
      gi_wp2
      refine ⟨by simp, .inl ⟨_, _, rfl, run_takeDeferred (show W.drew.heap[D]? = _ from HK.out), ?_⟩⟩
      refine ⟨_, results_tmp2 rfl _ _ _, out, v, rfl, ?_, ?_, ?_, ?_, ?_⟩
      · exact HOUT.out.upd HP1.out (HUP.out.drew.putObj (by omega) _)
      · exact own_base (own_putObj (W := W.drew) HO.out HK.out rfl _) (by omega)
      · exact putObj_other (w := W.drew) HC.out (by omega) _
      · exact HP.out.same (w' := W.drew.putObj D (.deferred none)) fun cs hh => putObj_other (w := W.drew) hh (fun e => by subst e; have := HK.out; rw [hh] at this; cases this) _
      · refine (HU1.out.mono (fun i hi e => .inl e)).trans (HUP.out.drew.putObj (by omega) _) (fun i hi e => .inr e)
  case stop =>
    rintro D c k W hD hk hF hK
    exact hF.elim
end Go.Proofs.Ytpnnmcicpjebmaa
