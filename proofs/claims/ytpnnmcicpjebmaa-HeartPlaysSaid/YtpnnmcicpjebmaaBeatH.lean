/-
  CONTRACT of heart's beat, and of the one who tells.
-/
import Derived.Test.YtpnnmcicpjebmaaIter
set_option linter.unusedSimpArgs false
set_option linter.unusedVariables false
namespace Go.Proofs.Ytpnnmcicpjebmaa
open Go.RowKit
attribute [local go_sem] Oper.semAt_some

def btL (ev le : Int) : Int := if ev = 0 then le else if 1 < le then le - 1 else ev
def btDue (ev le st : Int) : Prop := ev ≠ 0 ∧ ¬ 1 < le ∧ svB st 5
instance (ev le st : Int) : Decidable (btDue ev le st) := by unfold btDue; infer_instance
/-- A list of one heartbeat. -/
def Beat1 (w : World) (lo g : Nat) (n st : Int) : Prop := ∃ d, w.heap[g]? = some (.cells #[.int .i64 (1792 + n), .bool false, .slice (some ⟨d, 0, none⟩) 1 1] 32 (0, 0)) ∧ w.heap[d]? = some (.cells #[.int .u8 st] 5 (0, 0)) ∧ lo ≤ d

theorem sv5 {st : Int} (h : svB st 5) : knS st ∧ 0 ≤ st ∧ st ≤ 127 := by unfold svB at h; unfold knS; omega

set_option maxRecDepth 100000 in
set_option maxHeartbeats 1000000 in
theorem beatH_due (b : Nat) (n ev le : Int) (v : Value) (st : Int) (w : World) (hH : Hrt w b n ev le v) (hn : 1 ≤ n ∧ n ≤ 127) (hle : 0 ≤ le ∧ le ≤ 65535) (h : btDue ev le st) :
    Calls Try.prog 49 #[.pointer (some ⟨b, 0, none⟩), .int .i64 st] w fun e w' => ∃ g, e = .returned (.slice (some ⟨g, 0, none⟩) 1 1) ∧ w.heap.size ≤ g ∧ Beat1 w' w.heap.size g n st ∧ Hrt w' b n ev ev v ∧ Upd (· = b) w w' := by
  obtain ⟨hev, hle1, hsv⟩ := h
  have hs5 := sv5 hsv
  have HS := Lib.hid (decide_eq_true hsv)
  have HOK := Lib.hid (show beatOk n st from ⟨hn.1, hn.2, hs5.1⟩)
  obtain ⟨c0, c1, c2, c3⟩ := hH.cells
  have f2 := free_of hH 2
  have hbl := hH.lt
  have HT := Lib.hid (there_ok b n w c0 (by omega))
  have hev' : (ev == 0) = false := by rw [beq_eq_false_iff_ne]; exact hev
  have hd : ¬ 0 < le - 1 := by omega
  have hd2 : decide (0 < le - 1) = false := decide_eq_false hd
  have HH := Lib.hid (hset (hset hH 2 (.int .i64 (le - 1))) 2 (.int .i64 ev))
  have H1 := Lib.hid (hset hH 2 (.int .i64 ev))
  obtain ⟨hle0, hle2⟩ := hle
  clear hH hsv hev hs5 hle1
  go_enter Try.func49, Try.ntmps49
  go_wp2_with fail
  refine HT.out.mono ?_
  rintro e w1 ⟨rfl, rfl⟩
  go_wp2_with fail
  have hHw : Hid (Hrt ((w.setCell ⟨b, 2, none⟩ (.int .i64 (le - 1))).setCell ⟨b, 2, none⟩ (.int .i64 ev)) b n ev ev v) := HH.out
  have hUw : Hid (Upd (· = b) w ((w.setCell ⟨b, 2, none⟩ (.int .i64 (le - 1))).setCell ⟨b, 2, none⟩ (.int .i64 ev))) := ((Upd.refl (· = b) w).setCell (p := ⟨b, 2, none⟩) (fun _ => rfl) _).setCell (p := ⟨b, 2, none⟩) (fun _ => rfl) _
  refine (beat_yes n st _ HOK.out).mono ?_
  rintro e w2 ⟨d, rfl, hd0, hD, hb2⟩
  have HH2 : Hid (Hrt w2 b n ev ev v) := bkeep' hb2 hHw.out
  have HU2 : Hid (Upd (· = b) w w2) := hUw.out.trans (Upd.ofBelow' (S := fun _ => False) hb2) (fun _ _ h => h.elim)
  have HD2 := Lib.hid hD
  have s2 := hb2.size
  simp only [World.size_setCell] at s2
  have hdl := lt_of_block hD
  clear hb2 hD hHw hUw HH
  go_wp2_with fail
  refine (sv_any st 5 _).mono ?_
  rintro e w3 ⟨rfl, rfl⟩
  rw [HS.out]
  go_wp2_with fail
  go_ret
  refine ⟨_, rfl, by omega, ⟨d, anew _ _ (by simp), akeep _ (akeep _ HD2.out), by simp at hd0; omega⟩, akeep _ (akeep _ HH2.out), (HU2.out.alloc _).alloc _⟩

set_option maxRecDepth 100000 in
set_option maxHeartbeats 1000000 in
theorem beatH_quiet (b : Nat) (n ev le : Int) (v : Value) (st : Int) (w : World) (hH : Hrt w b n ev le v) (hn : 1 ≤ n ∧ n ≤ 127) (hle : 0 ≤ le ∧ le ≤ 65535) (h : ¬ btDue ev le st) :
    Calls Try.prog 49 #[.pointer (some ⟨b, 0, none⟩), .int .i64 st] w fun e w' => e = .returned (.slice none 0 0) ∧ Hrt w' b n ev (btL ev le) v ∧ Upd (· = b) w w' := by
  obtain ⟨c0, c1, c2, c3⟩ := hH.cells
  have f2 := free_of hH 2
  have hbl := hH.lt
  have HT := Lib.hid (there_ok b n w c0 (by omega))
  have H0 := Lib.hid hH
  obtain ⟨hle0, hle2⟩ := hle
  by_cases c1' : ev = 0
  · have r : btL ev le = le := by unfold btL; rw [if_pos c1']
    rw [r]
    subst c1'
    clear h r hH
    go_enter Try.func49, Try.ntmps49
    go_wp2_with fail
    refine HT.out.mono ?_
    rintro e w1 ⟨rfl, rfl⟩
    go_wp2_with fail
    go_ret
    exact ⟨rfl, H0.out, Upd.refl _ _⟩
  · have hev' : (ev == 0) = false := by rw [beq_eq_false_iff_ne]; exact c1'
    by_cases c2' : 1 < le
    · have r : btL ev le = le - 1 := by unfold btL; rw [if_neg c1', if_pos c2']
      rw [r]
      have hd : 0 < le - 1 := by omega
      have hd2 : decide (0 < le - 1) = true := decide_eq_true hd
      have HH := Lib.hid (hset hH 2 (.int .i64 (le - 1)))
      clear h r hH c1'
      go_enter Try.func49, Try.ntmps49
      go_wp2_with fail
      refine HT.out.mono ?_
      rintro e w1 ⟨rfl, rfl⟩
      go_wp2_with fail
      go_ret
      exact ⟨rfl, HH.out, (Upd.refl (· = b) w).setCell (p := ⟨b, 2, none⟩) (fun _ => rfl) _⟩
    · have r : btL ev le = ev := by unfold btL; rw [if_neg c1', if_neg c2']
      rw [r]
      have hsv : ¬ svB st 5 := fun k => h ⟨c1', c2', k⟩
      have HS := Lib.hid (decide_eq_false hsv)
      have hd : ¬ 0 < le - 1 := by omega
      have hd2 : decide (0 < le - 1) = false := decide_eq_false hd
      have HH := Lib.hid (hset (hset hH 2 (.int .i64 (le - 1))) 2 (.int .i64 ev))
      have hkn : knS st ∨ ¬ knS st := Classical.em _
      clear h r hH c1' c2' hsv
      have hHw : Hid (Hrt ((w.setCell ⟨b, 2, none⟩ (.int .i64 (le - 1))).setCell ⟨b, 2, none⟩ (.int .i64 ev)) b n ev ev v) := HH.out
      have hUw : Hid (Upd (· = b) w ((w.setCell ⟨b, 2, none⟩ (.int .i64 (le - 1))).setCell ⟨b, 2, none⟩ (.int .i64 ev))) := ((Upd.refl (· = b) w).setCell (p := ⟨b, 2, none⟩) (fun _ => rfl) _).setCell (p := ⟨b, 2, none⟩) (fun _ => rfl) _
      rcases hkn with hkn | hkn
      · have HOK := Lib.hid (show beatOk n st from ⟨hn.1, hn.2, hkn⟩)
        clear hkn
        go_enter Try.func49, Try.ntmps49
        go_wp2_with fail
        refine HT.out.mono ?_
        rintro e w1 ⟨rfl, rfl⟩
        go_wp2_with fail
        refine (beat_yes n st _ HOK.out).mono ?_
        rintro e w2 ⟨d, rfl, hd0, hD, hb2⟩
        have HH2 : Hid (Hrt w2 b n ev ev v) := bkeep' hb2 hHw.out
        have HU2 : Hid (Upd (· = b) w w2) := hUw.out.trans (Upd.ofBelow' (S := fun _ => False) hb2) (fun _ _ h => h.elim)
        clear hb2 hD hHw hUw HH
        go_wp2_with fail
        refine (sv_any st 5 _).mono ?_
        rintro e w3 ⟨rfl, rfl⟩
        rw [HS.out]
        go_wp2_with fail
        go_ret
        exact ⟨rfl, akeep _ HH2.out, HU2.out.alloc _⟩
      · have HOK := Lib.hid (show ¬ beatOk n st from fun k => hkn k.2.2)
        clear hkn
        go_enter Try.func49, Try.ntmps49
        go_wp2_with fail
        refine HT.out.mono ?_
        rintro e w1 ⟨rfl, rfl⟩
        go_wp2_with fail
        refine (beat_no n st _ HOK.out).mono ?_
        rintro e w2 ⟨rfl, hb2⟩
        have HH2 : Hid (Hrt w2 b n ev ev v) := bkeep' hb2 hHw.out
        have HU2 : Hid (Upd (· = b) w w2) := hUw.out.trans (Upd.ofBelow' (S := fun _ => False) hb2) (fun _ _ h => h.elim)
        clear hb2 hHw hUw HH
        go_wp2_with fail
        go_ret
        exact ⟨rfl, akeep _ HH2.out, HU2.out.alloc _⟩

theorem beatH_nil (st : Int) (w : World) : Calls Try.prog 49 #[.pointer none, .int .i64 st] w fun e w' => e = .returned (.slice none 0 0) ∧ w = w' := by
  go_enter Try.func49, Try.ntmps49
  go_wp2_with fail
  refine (there_nil _).mono ?_
  rintro e w1 ⟨rfl, rfl⟩
  go_wp2_with fail
  go_ret
  exact ⟨rfl, rfl⟩

/-- News, as they lie in memory. -/
def nvals (l : List (Int × Int)) : List Value := l.flatMap fun x => [.int .i64 x.1, .int .i64 x.2]
theorem nvals_snoc (l : List (Int × Int)) (x : Int × Int) : nvals (l ++ [x]) = nvals l ++ [.int .i64 x.1, .int .i64 x.2] := by simp [nvals]
theorem info36 : (Try.prog.info? 36).map (fun i => (i.zero, i.size, i.bytes)) = some (some (.agg #[.int .i64 0, .int .i64 0]), 2, 16) := by kernel_rfl

/-- A box that holds the call's own news. -/
def NewsB (W : World) (B base : Nat) (l : List (Int × Int)) : Prop := ∃ v, W.heap[B]? = some (.cells #[v] 33 (0, 0)) ∧ W.ownsRow base 36 2 v l.length (nvals l)
theorem news_shape {W : World} {base n : Nat} {v : Value} {xs : List Value} (h : W.ownsRow base 36 2 v n xs) : ∃ a cap, v = .slice a n cap := by
  rcases h.2 with ⟨rfl, rfl⟩ | ⟨g, cap, cur, rfl, _⟩
  · exact ⟨none, 0, rfl⟩
  · exact ⟨_, cap, rfl⟩

set_option maxRecDepth 100000 in
set_option maxHeartbeats 1000000 in
theorem tell_any (node : Int) (B base : Nat) (l : List (Int × Int)) (w : World) (h : NewsB w B base l) (hl : l.length ≤ 1000) (hB : B < base) (hbw : base ≤ w.heap.size) :
    Calls Try.prog 50 #[.int .i64 node, .pointer (some ⟨B, 0, none⟩)] w fun e w' => e = .returned (.tuple #[]) ∧ NewsB w' B base (l ++ [(2, node)]) ∧ KeepsOthers w w' ∧ Upd (fun k => k = B ∨ base ≤ k) w w' := by
  obtain ⟨v, hv, hown⟩ := h
  obtain ⟨ao, cap, rfl⟩ := news_shape hown
  have c0 := cells1 hv
  have f0 := free_of hv 0
  have HV := Lib.hid hv
  have HO := Lib.hid hown
  clear hv hown
  go_enter Try.func50, Try.ntmps50
  go_wp2_with (at_builtin; refine wpList_append_any rfl (.tmp 3) (.tmp 6) 33 rfl base 36 (.agg #[.int .i64 0, .int .i64 0]) 2 16 Try.underlying33 info36 rfl (by decide) _ _ _ rfl (HO.out.alloc _) (some ⟨w.heap.size, 0, none⟩) 1 1 [.int .i64 2, .int .i64 node] rfl (fun h => by cases h) (by simp) ?c1 ?c2 ?c3 ?c4 ?c5 ?_)
  case c1 =>
    intro ad e i x hx
    cases e
    have hnew : (w.alloc (.cells #[.int .i64 2, .int .i64 node] 36)).heap[w.heap.size]? = some (.cells #[.int .i64 2, .int .i64 node] 36 (0, 0)) := heap_alloc_new _ _
    obtain ⟨n0, n1⟩ := cells2 hnew
    rw [Addr.add_lit, Nat.zero_add]
    match i, hx with
    | 0, hx => simp at hx; subst hx; exact n0
    | 1, hx => simp at hx; subst hx; exact n1
  case c2 => intro x hx; simp at hx; rcases hx with rfl | rfl <;> rfl
  case c3 => unfold maxLen; omega
  case c4 => omega
  case c5 => simp; omega
  intro v' w1 hown' hg
  have hlt := HO.out.lt
  have hne : some B ≠ (Value.slice ao l.length cap).ownBlock := fun e => by
    have := (hlt B e.symm).1; omega
  have hv1 : w1.heap[B]? = some (.cells #[.slice ao l.length cap] 33 (0, 0)) := (hg.block B (by simp; have := lt_of_block HV.out; omega) hne).trans (akeep _ HV.out)
  have hk1 : KeepsOthers w w1 := (KeepsOthers.alloc _ _).trans (KeepsOthers.of_grownBy hg (fun i o e ho => by
    rcases (HO.out.alloc (.cells #[.int .i64 2, .int .i64 node] 36)).2 with ⟨hs, _⟩ | ⟨g, c, cur, hs, _, hh, _⟩
    · rw [hs] at e; simp [Value.ownBlock] at e
    · rw [hs] at e; simp [Value.ownBlock] at e; subst e; rw [hh] at ho; cases ho; rfl))
  have hu1 : Upd (fun k => k = B ∨ base ≤ k) w w1 := ((Upd.refl _ w).alloc _).grown hg (fun i e hi => .inr (hlt i e).1)
  obtain ⟨a', cap', rfl⟩ := news_shape hown'
  have d0 := cells1 hv1
  have d1 := free_of hv1 0
  have hb1 := lt_of_block hv1
  have V1 := Lib.hid hv1
  have O1 := Lib.hid hown'
  clear hv1 hown' hg hne hlt
  go_wp2_with fail
  go_end0
  refine ⟨rfl, ⟨_, hset V1.out 0 _, ?_⟩, hk1.trans (KeepsOthers.setCell _ _ _), hu1.setCell (p := ⟨B, 0, none⟩) (fun _ => .inl rfl) _⟩
  rw [nvals_snoc, List.length_append]
  exact ownsRow_setCell_below O1.out (a := ⟨B, 0, none⟩) (by simp; omega) _
end Go.Proofs.Ytpnnmcicpjebmaa
