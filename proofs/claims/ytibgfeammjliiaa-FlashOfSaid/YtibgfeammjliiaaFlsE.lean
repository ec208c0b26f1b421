/-
  A flash in memory; CONTRACTS of room, Read, Bytes, Erase.
-/
import Derived.Test.YtibgfeammjliiaaFlsD
set_option linter.unusedSimpArgs false
set_option linter.unusedVariables false
namespace Go.Proofs.Ytibgfeammjliiaa
open Go.RowKit
attribute [local go_sem] Oper.semAt_some

theorem room_nil (a n : Int) (w : World) : Calls Try.prog 30 #[.pointer none, .int .i64 a, .int .i64 n] w fun e w' => e = .returned (.int .i64 17) ∧ w = w' := by
  go_enter Try.func30, Try.ntmps30
  go_wp2_with fail
  go_ret
  exact ⟨rfl, rfl⟩
theorem room_ok (B g n c : Nat) (wv : Value) (bs ws : List Int) (most : Int) (ahead mask ops : Int) (k m : Nat) (w : World) (h : Fls w B (.slice (some ⟨g, 0, none⟩) n c) wv bs ws most false ahead mask ops) (hk : k + m ≤ n) (hnB : (n : Int) ≤ 8192) :
    Calls Try.prog 30 #[.pointer (some ⟨B, 0, none⟩), .int .i64 (k : Int), .int .i64 (m : Int)] w fun e w' => e = .returned (.int .i64 0) ∧ w = w' := by
  obtain ⟨c0, c1, c2, c3, c4, c5, c6⟩ := cells7 h.1
  have d1 : (k : Int) ≤ (n : Int) := by omega
  have d2 : (m : Int) ≤ (n : Int) - (k : Int) := by omega
  have d3 : (0 : Int) ≤ (k : Int) := by omega
  have d4 : (0 : Int) ≤ (m : Int) := by omega
  clear h hk
  go_enter Try.func30, Try.ntmps30
  go_wp2_with fail
  go_ret
  exact ⟨rfl, rfl⟩

/-- What a fresh row of bytes is. -/
def Fresh (w w' : World) (v : Value) (bs : List Int) : Prop := ∃ g c, v = .slice (some ⟨g, 0, none⟩) bs.length c ∧ w.heap.size ≤ g ∧ w'.ownsRow w.heap.size 5 1 v bs.length (zv bs) ∧ Below w.heap.size w w'

theorem bytes_any (B g n c : Nat) (wv : Value) (bs ws : List Int) (most : Int) (off : Bool) (ahead mask ops : Int) (w : World) (h : Fls w B (.slice (some ⟨g, 0, none⟩) n c) wv bs ws most off ahead mask ops) (hn : n = bs.length) (h0 : 0 < n) (hnB : n ≤ 8192) :
    Calls Try.prog 17 #[.pointer (some ⟨B, 0, none⟩)] w fun e w' => ∃ v, e = .returned v ∧ Fresh w w' v bs := by
  obtain ⟨c0, c1, c2, c3, c4, c5, c6⟩ := cells7 h.1
  have hL := h.2.1
  rw [← hn] at hL
  have HL := Lib.hid hL
  have HN := Lib.hid hn
  have HB := Lib.hid hnB
  clear h hL hn hnB
  go_enter Try.func17, Try.ntmps17
  go_wp2_with (at_builtin; refine wpList_append_any rfl (.const (.slice none 0 0)) (.tmp 8) 22 rfl w.heap.size 5 (.int .u8 0) 1 1 Try.underlying22 info_sp rfl (by decide) _ _ _ rfl (World.ownsRow_nil w w.heap.size 5 1) (some ⟨g, 0, none⟩) n c (zv bs) rfl (fun h => by cases h) (by unfold zv; rw [List.length_map, HN.out, Nat.mul_one]) (fun ad e => by cases e; exact HL.out.news _ rfl) (zv_one bs) (by have := HB.out; unfold maxLen; omega) (by have := HB.out; omega) (Nat.le_refl _) ?_)
  intro v' w' hown hg
  obtain ⟨g', c', rfl, h1, h2⟩ := own_shape hown h0
  have HO := Lib.hid hown
  have HG := Lib.hid hg
  clear hown hg
  go_wp2_with fail
  go_ret
  refine ⟨.slice (some ⟨g', 0, none⟩) n c', rfl, g', c', by rw [← HN.out], h1, by rw [← HN.out]; exact HO.out, (Below.refl _ w).grown HG.out (Nat.le_refl _) (fun k e => by simp [Value.ownBlock] at e)⟩

theorem read_ok (B g n c : Nat) (wv : Value) (bs ws : List Int) (most : Int) (ahead mask ops : Int) (k m : Nat) (w : World) (h : Fls w B (.slice (some ⟨g, 0, none⟩) n c) wv bs ws most false ahead mask ops) (hn : n = bs.length) (hk : k + m ≤ n) (h0 : 0 < m) (hnB : (n : Int) ≤ 8192) :
    Calls Try.prog 11 #[.pointer (some ⟨B, 0, none⟩), .int .i64 (k : Int), .int .i64 (m : Int)] w fun e w' => ∃ v, e = .returned (.tuple #[v, .int .i64 0]) ∧ Fresh w w' v ((bs.drop k).take m) := by
  have HC := Lib.hid (room_ok B g n c wv bs ws most ahead mask ops k m w h hk hnB)
  obtain ⟨c0, c1, c2, c3, c4, c5, c6⟩ := cells7 h.1
  have hac : n ≤ c := by
    obtain ⟨_, _, es, _, hac, hcm⟩ := h.2.1.shape
    injection es with _ en ec
    omega
  have hL := h.2.1
  rw [← hn] at hL
  have HL := Lib.hid hL
  have HN := Lib.hid hn
  obtain ⟨q, hq⟩ : ∃ q, k + m = q := ⟨_, rfl⟩
  have d1 : (k : Int) + (m : Int) = (q : Int) := by omega
  have d2 : (k : Int) ≤ (q : Int) := by omega
  have d3 : (q : Int) ≤ (c : Int) := by omega
  have d4 : (q : Int) - (k : Int) = (m : Int) := by omega
  have hml : ((bs.drop k).take m).length = m := by rw [List.length_take, List.length_drop]; omega
  have HML := Lib.hid hml
  have HQ := Lib.hid (And.intro hq (And.intro hk (And.intro h0 hnB)))
  have dn : (q : Int) ≤ 8192 := by omega
  have HX : ∀ j u, (zv ((bs.drop k).take m))[j]? = some u → w.cell? ((⟨g, k, none⟩ : Addr).add j) = some u := by
    intro j u hu
    have hj : j < m := by
      have := (List.getElem?_eq_some_iff.1 hu).1
      unfold zv at this; rw [List.length_map, hml] at this; exact this
    rw [Addr.add_lit]
    refine hL.cell ?_
    rw [← hu]
    unfold zv
    rw [List.getElem?_map, List.getElem?_map, List.getElem?_take, if_pos hj, List.getElem?_drop]
  have HX := Lib.hid HX
  have HQK := Lib.hid (show q - k = m by omega)
  clear h hL hn hq hk hml hnB
  go_enter Try.func11, Try.ntmps11
  go_wp2_with fail
  refine HC.out.mono ?_
  rintro e w1 ⟨rfl, rfl⟩
  go_wp2_with (at_builtin; refine wpList_append_any rfl (.const (.slice none 0 0)) (.tmp 24) 22 rfl w.heap.size 5 (.int .u8 0) 1 1 Try.underlying22 info_sp rfl (by decide) _ _ _ rfl (World.ownsRow_nil w w.heap.size 5 1) (some ⟨g, k, none⟩) (q - k) (c - k) (zv ((bs.drop k).take m)) rfl (fun h => by cases h) (by unfold zv; rw [List.length_map, HML.out, HQK.out, Nat.mul_one]) (fun ad e => by cases e; exact HX.out) (zv_one _) (by have := HQ.out; unfold maxLen; omega) (by have := HQ.out; omega) (Nat.le_refl _) ?_)
  intro v' w' hown hg
  rw [HQK.out] at hown
  obtain ⟨g', c', rfl, h1, h2⟩ := own_shape hown h0
  have HO := Lib.hid hown
  have HG := Lib.hid hg
  clear hown hg
  go_wp2_with fail
  go_ret2
  refine ⟨.slice (some ⟨g', 0, none⟩) m c', rfl, g', c', by rw [HML.out], h1, by rw [HML.out]; exact HO.out, (Below.refl _ w).grown HG.out (Nat.le_refl _) (fun k e => by simp [Value.ownBlock] at e)⟩

set_option maxHeartbeats 1000000 in
theorem erase_worn (B : Nat) (bv wv : Value) (bs ws : List Int) (most : Int) (ahead mask ops : Int) (s : Nat) (z : Int) (w : World) (h : Fls w B bv wv bs ws most false ahead mask ops) (hz : ws[s]? = some z) (hw : most ≤ z) :
    Calls Try.prog 10 #[.pointer (some ⟨B, 0, none⟩), .int .i64 (s : Int)] w fun e w' => e = .returned (.int .i64 10) ∧ Below w.heap.size w w' := by
  have hs : s < ws.length := (List.getElem?_eq_some_iff.1 hz).1
  obtain ⟨a, c, rfl, _, hac, hcm⟩ := h.2.2.shape
  obtain ⟨g, rfl⟩ := h.2.2.at0 (by omega)
  obtain ⟨c0, c1, c2, c3, c4, c5, c6⟩ := cells7 h.1
  have cz : w.cell? ⟨g, s, none⟩ = some (.int .i64 z) := h.2.2.cell (by unfold iv; rw [List.getElem?_map, hz]; rfl)
  have d1 : (s : Int) < (ws.length : Int) := by omega
  have d2 : decide (most ≤ z) = true := decide_eq_true hw
  clear h hz hs
  go_enter Try.func10, Try.ntmps10
  go_wp2_with fail
  go_quiet (fail)
  go_wp2_with fail
  go_ret
  exact ⟨rfl, ⟨rfl, rfl, rfl, Nat.le_refl _, fun _ _ => rfl⟩⟩

set_option maxHeartbeats 1000000 in
theorem erase_whole (B g n c g2 n2 c2 : Nat) (bs ws : List Int) (most : Int) (ahead mask ops : Int) (s : Nat) (z : Int) (w : World) (h : Fls w B (.slice (some ⟨g, 0, none⟩) n c) (.slice (some ⟨g2, 0, none⟩) n2 c2) bs ws most false ahead mask ops) (hn : n = bs.length) (hn2 : n2 = ws.length) (hz : ws[s]? = some z) (hw : z < most) (hw0 : 0 ≤ z ∧ z ≤ 1000000)
    (hs : s * 1024 + 1024 ≤ n) (hnB : (n : Int) ≤ 8192) (ha : ahead ≠ 0) (hm : ahead ≤ 9223372036854775807) (ho : 0 ≤ ops ∧ ops ≤ 1000000) :
    Calls Try.prog 10 #[.pointer (some ⟨B, 0, none⟩), .int .i64 (s : Int)] w fun e w' => e = .returned (.int .i64 0) ∧ Fls w' B (.slice (some ⟨g, 0, none⟩) n c) (.slice (some ⟨g2, 0, none⟩) n2 c2) (fillZ bs (s * 1024) 1024) (ws.set s (z + 1)) most false (nextA ahead) mask (ops + 1) ∧ Upd (fun i => i = B ∨ i = g ∨ i = g2) w w' := by
  have hs2 : s < n2 := by rw [hn2]; exact (List.getElem?_eq_some_iff.1 hz).1
  have hac : n2 ≤ c2 := by
    obtain ⟨_, _, es, _, hac, hcm⟩ := h.2.2.shape
    injection es with _ en ec
    omega
  have HC : ∀ N, Calls Try.prog 31 #[.pointer (some ⟨B, 0, none⟩), .int .i64 (s : Int), .func (.func 34) #[.pointer (some ⟨B, 0, none⟩)] #[], .func (.func 35) #[.pointer (some ⟨B, 0, none⟩)] #[]] ((w.drewN N).setCell ⟨g2, s, none⟩ (.int .i64 (z + 1))) fun e w' => e = .returned (.int .i64 0) ∧ Fls w' B (.slice (some ⟨g, 0, none⟩) n c) (.slice (some ⟨g2, 0, none⟩) n2 c2) (fillZ bs (s * 1024) 1024) (ws.set s (z + 1)) most false (nextA ahead) mask (ops + 1) ∧ Upd (fun i => i = B ∨ i = g ∨ i = g2) w w' := by
    intro N
    have hF : Fls ((w.drewN N).setCell ⟨g2, s, none⟩ (.int .i64 (z + 1))) B (.slice (some ⟨g, 0, none⟩) n c) (.slice (some ⟨g2, 0, none⟩) n2 c2) bs (ws.set s (z + 1)) most false ahead mask ops :=
      Fls.worn (w := w.drewN N) (h.upd ((Upd.refl (fun _ => False) w).drewN N) (fun h => h) (fun _ _ h => h) (fun _ _ h => h)) hn2 s hs2 (z + 1)
    have hU : Upd (fun i => i = B ∨ i = g ∨ i = g2) w ((w.drewN N).setCell ⟨g2, s, none⟩ (.int .i64 (z + 1))) := ((Upd.refl _ w).drewN N).setCell (p := ⟨g2, s, none⟩) (fun _ => .inr (.inr rfl)) _
    refine (do_erase_whole B g n c _ bs _ most false ahead mask ops s _ hF hn hs hnB ha hm ho).mono ?_
    rintro e w' ⟨e1, e2, e3⟩
    exact ⟨e1, e2, hU.trans e3 (fun i _ h => h.elim .inl (fun h => .inr (.inl h)))⟩
  have HC := Lib.hid HC
  obtain ⟨c0, c1, c2', c3, c4, c5, c6⟩ := cells7 h.1
  have hL2 := h.2.2
  rw [← hn2] at hL2
  have cz : w.cell? ⟨g2, s, none⟩ = some (.int .i64 z) := hL2.cell (by unfold iv; rw [List.getElem?_map, hz]; rfl)
  obtain ⟨hf, _⟩ := hL2.free s
  have d1 : (s : Int) < (n2 : Int) := by omega
  have d2 : decide (most ≤ z) = false := decide_eq_false (by omega)
  obtain ⟨z0, z1⟩ := hw0
  clear h hz hs hs2 hL2 hw ha hm ho hn hn2
  go_enter Try.func10, Try.ntmps10
  go_wp2_with fail
  go_quiet (fail)
  go_wp2_with fail
  refine (HC.out nq).mono ?_
  rintro e w1 ⟨rfl, hF, hU⟩
  have HF := Lib.hid (And.intro hF hU)
  clear hF hU
  go_wp2_with fail
  go_ret
  exact ⟨rfl, HF.out⟩
set_option maxHeartbeats 1000000 in
theorem erase_torn (B g n c g2 n2 c2 : Nat) (bs ws : List Int) (most : Int) (mask ops : Int) (s : Nat) (z : Int) (w : World) (h : Fls w B (.slice (some ⟨g, 0, none⟩) n c) (.slice (some ⟨g2, 0, none⟩) n2 c2) bs ws most false 0 mask ops) (hn : n = bs.length) (hn2 : n2 = ws.length) (hz : ws[s]? = some z) (hw : z < most) (hw0 : 0 ≤ z ∧ z ≤ 1000000)
    (hs : s * 1024 + 1024 ≤ n) (hnB : (n : Int) ≤ 8192) (hmk : 0 ≤ mask ∧ mask < 4294967296) :
    Calls Try.prog 10 #[.pointer (some ⟨B, 0, none⟩), .int .i64 (s : Int)] w fun e w' => e = .returned (.int .i64 7) ∧ Fls w' B (.slice (some ⟨g, 0, none⟩) n c) (.slice (some ⟨g2, 0, none⟩) n2 c2) (fillZ bs (s * 1024) (cutN mask)) (ws.set s (z + 1)) most true (-1) mask ops ∧ Upd (fun i => i = B ∨ i = g ∨ i = g2) w w' := by
  have hs2 : s < n2 := by rw [hn2]; exact (List.getElem?_eq_some_iff.1 hz).1
  have hac : n2 ≤ c2 := by
    obtain ⟨_, _, es, _, hac, hcm⟩ := h.2.2.shape
    injection es with _ en ec
    omega
  have HC : ∀ N, Calls Try.prog 31 #[.pointer (some ⟨B, 0, none⟩), .int .i64 (s : Int), .func (.func 34) #[.pointer (some ⟨B, 0, none⟩)] #[], .func (.func 35) #[.pointer (some ⟨B, 0, none⟩)] #[]] ((w.drewN N).setCell ⟨g2, s, none⟩ (.int .i64 (z + 1))) fun e w' => e = .returned (.int .i64 7) ∧ Fls w' B (.slice (some ⟨g, 0, none⟩) n c) (.slice (some ⟨g2, 0, none⟩) n2 c2) (fillZ bs (s * 1024) (cutN mask)) (ws.set s (z + 1)) most true (-1) mask ops ∧ Upd (fun i => i = B ∨ i = g ∨ i = g2) w w' := by
    intro N
    have hF : Fls ((w.drewN N).setCell ⟨g2, s, none⟩ (.int .i64 (z + 1))) B (.slice (some ⟨g, 0, none⟩) n c) (.slice (some ⟨g2, 0, none⟩) n2 c2) bs (ws.set s (z + 1)) most false 0 mask ops :=
      Fls.worn (w := w.drewN N) (h.upd ((Upd.refl (fun _ => False) w).drewN N) (fun h => h) (fun _ _ h => h) (fun _ _ h => h)) hn2 s hs2 (z + 1)
    have hU : Upd (fun i => i = B ∨ i = g ∨ i = g2) w ((w.drewN N).setCell ⟨g2, s, none⟩ (.int .i64 (z + 1))) := ((Upd.refl _ w).drewN N).setCell (p := ⟨g2, s, none⟩) (fun _ => .inr (.inr rfl)) _
    refine (do_erase_torn B g n c _ bs _ most false mask ops s _ hF hn hs hnB hmk).mono ?_
    rintro e w' ⟨e1, e2, e3⟩
    exact ⟨e1, e2, hU.trans e3 (fun i _ h => h.elim .inl (fun h => .inr (.inl h)))⟩
  have HC := Lib.hid HC
  obtain ⟨c0, c1, c2', c3, c4, c5, c6⟩ := cells7 h.1
  have hL2 := h.2.2
  rw [← hn2] at hL2
  have cz : w.cell? ⟨g2, s, none⟩ = some (.int .i64 z) := hL2.cell (by unfold iv; rw [List.getElem?_map, hz]; rfl)
  obtain ⟨hf, _⟩ := hL2.free s
  have d1 : (s : Int) < (n2 : Int) := by omega
  have d2 : decide (most ≤ z) = false := decide_eq_false (by omega)
  obtain ⟨z0, z1⟩ := hw0
  clear h hz hs hs2 hL2 hw hmk hn hn2
  go_enter Try.func10, Try.ntmps10
  go_wp2_with fail
  go_quiet (fail)
  go_wp2_with fail
  refine (HC.out nq).mono ?_
  rintro e w1 ⟨rfl, hF, hU⟩
  have HF := Lib.hid (And.intro hF hU)
  clear hF hU
  go_wp2_with fail
  go_ret
  exact ⟨rfl, HF.out⟩
end Go.Proofs.Ytibgfeammjliiaa
