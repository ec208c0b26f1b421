/-
  LAW FlashWears: the walk.
-/
import Derived.Test.YtibgfeammjliiaaFlsL
set_option linter.unusedSimpArgs false
set_option linter.unusedVariables false
namespace Go.Proofs.Ytibgfeammjliiaa
open Go.RowKit
attribute [local go_sem] Oper.semAt_some

def WR (w : World) (B g c g2 c2 G : Nat) (n : Int) (k : Nat) (wr : World) : Prop :=
  ∃ (bs ws : List Int) (ops : Int), bs.length = 3072 ∧ ws.length = 3 ∧ (∀ z ∈ ws, 0 ≤ z ∧ z ≤ n) ∧ (0 ≤ ops ∧ ops ≤ 2 * (k : Int)) ∧
    Fls wr B (.slice (some ⟨g, 0, none⟩) 3072 c) (.slice (some ⟨g2, 0, none⟩) 3 c2) bs ws n false (-1) 0 ops ∧ wr.heap[G]? = some (.cells (iv ws).toArray 25 (0, 0)) ∧ Below w.heap.size w wr

theorem worn_qn (s : Nat) (z : Int) {w : World} {B : Nat} {bv wv : Value} {bs ws : List Int} {most : Int} {off : Bool} {ahead mask ops : Int} (h : Fls w B bv wv bs ws most off ahead mask ops) (hz : ws[s]? = some z) :
    ∀ n, Calls Try.prog 12 #[.pointer (some ⟨B, 0, none⟩), .int .i64 (s : Int)] (w.drewN n) fun e w' => e = .returned (.int .i64 z) ∧ w' = w.drewN n := by
  intro n
  have hs : s < ws.length := (List.getElem?_eq_some_iff.1 hz).1
  have e : wornZ ws (s : Int) = z := by unfold wornZ; rw [if_pos (by omega)]; simp [List.getD, hz]
  have := worn_any B bv wv bs ws most off ahead mask ops s _ (h.drewN n)
  rw [e] at this
  exact this.mono fun _ _ h => ⟨h.1, h.2.symm⟩
theorem left_qn (s : Nat) (z : Int) {w : World} {B : Nat} {bv wv : Value} {bs ws : List Int} {most : Int} {off : Bool} {ahead mask ops : Int} (h : Fls w B bv wv bs ws most off ahead mask ops) (hz : ws[s]? = some z) (hm : 0 ≤ most ∧ most ≤ 9223372036854775807) (hw : ∀ z ∈ ws, 0 ≤ z ∧ z ≤ most) :
    ∀ n, Calls Try.prog 13 #[.pointer (some ⟨B, 0, none⟩), .int .i64 (s : Int)] (w.drewN n) fun e w' => e = .returned (.int .i64 (most - z)) ∧ ∃ m, w' = (w.drewN n).drewN m := by
  intro n
  have hs : s < ws.length := (List.getElem?_eq_some_iff.1 hz).1
  have e : leftZ most ws (s : Int) = most - z := by unfold leftZ; rw [if_pos (by omega)]; simp [List.getD, hz]
  have := left_q B bv wv bs ws most off ahead mask ops s _ (h.drewN n) hm hw
  rw [e] at this
  exact this

theorem wear_cell {w : World} {G s : Nat} {ws : List Int} {z : Int} (h : w.heap[G]? = some (.cells (iv ws).toArray 25 (0, 0))) (hz : ws[s]? = some z) : w.cell? ⟨G, s, none⟩ = some (.int .i64 z) := by
  simp [World.cell?, h, iv, hz]
theorem wear_set {w : World} {G s : Nat} {ws : List Int} (z : Int) (h : w.heap[G]? = some (.cells (iv ws).toArray 25 (0, 0))) : (w.setCell ⟨G, s, none⟩ (.int .i64 z)).heap[G]? = some (.cells (iv (ws.set s z)).toArray 25 (0, 0)) := by
  rw [hset h s _]
  unfold iv
  rw [List.map_set, List.setIfInBounds_toArray]

theorem one_at {l : List Int} {k : Nat} {a : Int} (h : l[k]? = some a) : (l.drop k).take 1 = [a] := by
  apply List.ext_getElem?
  intro i
  rw [List.getElem?_take, List.getElem?_drop]
  match i with
  | 0 => rw [if_pos (by omega)]; exact h
  | i + 1 => rw [if_neg (by omega)]; rfl

set_option maxRecDepth 100000 in
set_option maxHeartbeats 8000000 in
theorem wears_said (a0 : Int) (a : Option Addr) (m xc : Nat) (l : List UInt8) (w : World) (h0 : 0 ≤ a0 ∧ a0 < 256) (hl : l.length = m) (hm : (m : Int) ≤ 9223372036854775807) (hb : Bytes w a l) :
    Calls Try.prog 3 #[.int .u8 a0, .slice a m xc] w fun e w' => e = .returned (.bool true) ∧ Below w.heap.size w w' := by
  obtain ⟨q, hq⟩ : ∃ q : Nat, a0.tmod 9 = (q : Int) ∧ q ≤ 8 := ⟨(a0 % 9).toNat, by rw [Int.tmod_eq_emod_of_nonneg h0.1]; omega, by omega⟩
  obtain ⟨d1, hq8⟩ := hq
  obtain ⟨n, hn⟩ : ∃ n : Nat, 1 + q = n := ⟨_, rfl⟩
  have d2 : (1 : Int) + (q : Int) = (n : Int) := by omega
  have hn1 : 1 ≤ n := by omega
  have hn9 : (n : Int) ≤ 9 := by omega
  obtain ⟨d0, d0b⟩ := h0
  have HC := Lib.hid (new_ok 3 n w (by decide) (by decide) (by omega))
  have HQ := Lib.hid hq8
  have HB0 := Lib.hid (And.intro hl hb)
  clear hn hq8 hl hb
  have e3 : ((3 : Nat) : Int) = 3 := rfl
  rw [e3] at HC
  clear e3
  go_enter Try.func3, Try.ntmps3
  go_wp2_with fail
  (with_reducible refine HC.out.mono ?_)
  rintro e w1 ⟨B, bv, wv, rfl, hF1, hB1, hb1, hw1, hBl1⟩
  obtain ⟨bs, hbs⟩ : ∃ bs : List Int, List.replicate (3 * 1024) 255 = bs := ⟨_, rfl⟩
  have hlen : bs.length = 3072 := by rw [← hbs]; exact List.length_replicate
  rw [hbs] at hF1
  obtain ⟨g, c, g2, c2, rfl, rfl⟩ := hF1.shape (by omega) (by simp)
  have hF1 : Fls w1 B (.slice (some ⟨g, 0, none⟩) 3072 c) (.slice (some ⟨g2, 0, none⟩) 3 c2) bs [0, 0, 0] n false (-1) 0 0 := by rw [hlen] at hF1; exact hF1
  have hg1 := hb1 g rfl
  have hg2 := hw1 g2 rfl
  have hlt := hF1.lts
  have HF1 := Lib.hid hF1
  have HB1 := Lib.hid hBl1
  have HS := Lib.hid (show (w.heap.size ≤ B ∧ w.heap.size ≤ g ∧ w.heap.size ≤ g2) ∧ B < w1.heap.size ∧ g < w1.heap.size ∧ g2 < w1.heap.size from ⟨⟨hB1, hg1, hg2⟩, hlt⟩)
  have HN := Lib.hid hlen
  clear hF1 hbs hB1 hb1 hw1 hBl1 hg1 hg2 hlt hlen HC d1 d2 d0 d0b
  go_wp2_with fail
  have HWR : Hid (WR w B g c g2 c2 w1.heap.size n 0 (w1.alloc (.cells #[.int .i64 0, .int .i64 0, .int .i64 0] 25))) :=
    ⟨bs, [0, 0, 0], 0, HN.out, rfl, by intro z hz; simp at hz; omega, by omega, HF1.out.alloc _, by rw [heap_alloc_new]; rfl, HB1.out.alloc HB1.out.size _⟩
  clear HF1 HB1 HN
  go_loopg [8] 60 (fun gg i wr => ∃ k : Nat, k ≤ 60 ∧ gg = 60 - k ∧ i = .int .i64 k ∧ WR w B g c g2 c2 w1.heap.size n k wr)
  case atStart => exact ⟨0, by omega, by omega, rfl, HWR.out⟩
  case round =>
    obtain ⟨k, hk, hgk, rfl, hW⟩ := hrel
    obtain ⟨bs, ws, ops, hbl, hwl, hwz, hops, hF, hG, hB⟩ := hW
    have HG := Lib.hid hgk
    have HF := Lib.hid hF
    have HGc := Lib.hid hG
    have HB := Lib.hid hB
    have HL := Lib.hid (And.intro hbl (And.intro hwl (And.intro hwz hops)))
    have hsz := hB.size
    clear HWR hgk hF hG hB hbl hwl hwz hops
    by_cases hk1 : k < m ∧ k < 60
    · obtain ⟨hk1, hk2⟩ := hk1
      have d1 : (k : Int) < (m : Int) := by omega
      have d2 : (k : Int) < 60 := by omega
      obtain ⟨lb, off, rfl, hcell⟩ := HB0.out.2.resolve_left (fun e => by have := HB0.out.1; rw [e] at this; simp at this; omega)
      obtain ⟨y, hy, hy0, hy1⟩ : ∃ y : Int, wr.cell? ⟨lb, off + k, none⟩ = some (.int .u8 y) ∧ 0 ≤ y ∧ y < 256 := by
        have hc := hcell k (by rw [HB0.out.1]; exact hk1)
        have hlt := World.block_lt_of_cell? w _ hc
        have hu := UInt8.toNat_lt (l[k]'(by rw [HB0.out.1]; exact hk1))
        exact ⟨_, (HB.out.cell hlt).trans hc, by omega, by omega⟩
      clear hcell
      obtain ⟨s, hs, hs3⟩ : ∃ s : Nat, y.tmod 3 = (s : Int) ∧ s < 3 := ⟨(y % 3).toNat, by rw [Int.tmod_eq_emod_of_nonneg hy0]; omega, by omega⟩
      have HSm := Lib.hid hs
      clear hs
      obtain ⟨p, hp⟩ : ∃ p : Nat, 1024 * s = p := ⟨_, rfl⟩
      have d3 : (1024 : Int) * (s : Int) = (p : Int) := by omega
      have hps : s * 1024 = p := by omega
      obtain ⟨z, hz⟩ : ∃ z, ws[s]? = some z := ⟨_, List.getElem?_eq_getElem (by have := HL.out.2.1; omega)⟩
      obtain ⟨hz0, hzn⟩ := HL.out.2.2.1 z (List.mem_of_getElem? hz)
      have HC1 : Hid (Calls Try.prog 9 #[.pointer (some ⟨B, 0, none⟩), .int .i64 (p : Int), .slice (some ⟨wr.heap.size, 0, none⟩) 1 1] (wr.alloc (.cells #[.int .u8 0] 5)) fun e w' => e = .returned (.int .i64 0) ∧ Fls w' B (.slice (some ⟨g, 0, none⟩) 3072 c) (.slice (some ⟨g2, 0, none⟩) 3 c2) (progZ bs p [0] 1) ws n false (-1) 0 (ops + 1) ∧ Upd (fun i => i = B ∨ i = g) (wr.alloc (.cells #[.int .u8 0] 5)) w') :=
        prog_whole B g 3072 c _ bs ws n 0 ops p (some ⟨wr.heap.size, 0, none⟩) [0] 1 1 _ (HF.out.alloc _) HL.out.1.symm (by omega) rfl (Reads.new wr B g [0] HF.out.lts.1 HF.out.lts.2.1) (by omega) (by have := HL.out.2.2.2; omega) (by omega)
      have hd3 : (s : Int) < 3 := by omega
      have HP := Lib.hid (And.intro hp (And.intro hps hz))
      have hs := HSm.out
      clear hp hps hz
      go_wp2_with fail
      clear hs
      (with_reducible refine HC1.out.mono ?_)
      rintro e w2 ⟨rfl, hF2, hU2⟩
      have hGc2 := hU2.block_some (akeep _ HGc.out) (fun h => by have := HS.out; rcases h with h | h <;> omega)
      have HF2 := Lib.hid hF2
      have HB2 := Lib.hid (belowU (HB.out.alloc hsz _) hU2 (fun i h => by have := HS.out; rcases h with h | h <;> omega) (Nat.le_refl _))
      have HG2 := Lib.hid hGc2
      clear hF2 hU2 hGc2 HF HB HGc HC1
      by_cases hzl : z < n
      · go_wp2_with fail
        refine (erase_whole B g 3072 c g2 3 c2 (progZ bs p [0] 1) ws n (-1) 0 (ops + 1) s z _ HF2.out (by rw [progZ_length]; exact HL.out.1.symm) HL.out.2.1.symm HP.out.2.2 hzl (by omega) (by have := HP.out.2.1; omega) (by omega) (by decide) (by decide) (by have := HL.out.2.2.2; omega)).mono ?_
        rintro e w3 ⟨rfl, hF3, hU3⟩
        obtain ⟨z1, hz1⟩ : ∃ z1, z + 1 = z1 := ⟨_, rfl⟩
        obtain ⟨bs3, hbs3⟩ : ∃ bs3, fillZ (progZ bs p [0] 1) (s * 1024) 1024 = bs3 := ⟨_, rfl⟩
        obtain ⟨ws3, hws3⟩ : ∃ ws3, ws.set s z1 = ws3 := ⟨_, rfl⟩
        have hl3 : bs3.length = 3072 := by rw [← hbs3, fillZ_length, progZ_length]; exact HL.out.1
        have hz3 : ws3[s]? = some z1 := by rw [← hws3, List.getElem?_set_self (by have := HL.out.2.1; omega)]
        have hw3 : ws3.length = 3 := by rw [← hws3, List.length_set]; exact HL.out.2.1
        have hb3 : bs3[p]? = some 255 := by
          rw [← hbs3, fillZ_get _ _ _ _ (by rw [progZ_length]; have := HL.out.1; omega), if_pos (by have := HP.out.2.1; omega)]
        have hm3 : ∀ x ∈ ws3, 0 ≤ x ∧ x ≤ n := by
          intro x hx
          rw [← hws3] at hx
          rcases List.mem_or_eq_of_mem_set hx with h | h
          · exact HL.out.2.2.1 x h
          · omega
        rw [hz1, hbs3, hws3] at hF3
        have hGc3 := hU3.block_some HG2.out (fun h => by have := HS.out; rcases h with h | h | h <;> omega)
        have HB3 := Lib.hid (belowU HB2.out hU3 (fun i h => by have := HS.out; rcases h with h | h | h <;> omega) (Nat.le_refl _))
        have cz := wear_cell hGc3 HP.out.2.2
        have fz := free_of hGc3 s
        have hGc4 := wear_set z1 hGc3 (s := s)
        rw [hws3] at hGc4
        have hF4 : Fls (w3.setCell ⟨w1.heap.size, s, none⟩ (.int .i64 z1)) B (.slice (some ⟨g, 0, none⟩) 3072 c) (.slice (some ⟨g2, 0, none⟩) 3 c2) bs3 ws3 n false (-1) 0 (ops + 2) := by
          have h2 : Fls w3 B (.slice (some ⟨g, 0, none⟩) 3072 c) (.slice (some ⟨g2, 0, none⟩) 3 c2) bs3 ws3 n false (-1) 0 (ops + 2) := by
            rw [show ops + 2 = ops + 1 + 1 from by omega]
            exact hF3
          exact h2.upd ((Upd.refl (· = w1.heap.size) w3).setCell (p := ⟨w1.heap.size, s, none⟩) (fun _ => rfl) _) (by have := HS.out; omega) (fun j hj => by have e : g = j := Option.some.inj hj; have := HS.out; omega) (fun j hj => by have e : g2 = j := Option.some.inj hj; have := HS.out; omega)
        have HB4 := Lib.hid (HB3.out.setCell (show w.heap.size ≤ (⟨w1.heap.size, s, none⟩ : Addr).block by have := HS.out; show w.heap.size ≤ w1.heap.size; omega) (.int .i64 z1))
        have HF4 := Lib.hid hF4
        have HG4 := Lib.hid hGc4
        have HM := Lib.hid (And.intro hl3 (And.intro hz3 (And.intro hw3 (And.intro hb3 hm3))))
        have HZ1 := Lib.hid hz1
        have dz : decide (z < (n : Int)) = true := decide_eq_true hzl
        clear hF3 hU3 hGc3 hGc4 hF4 HB2 HF2 HG2 HB3 hbs3 hws3 hl3 hz3 hw3 hb3 hm3 hzl
        go_wp2_with fail
        clear hz1
        refine (read_ok B g 3072 c _ bs3 ws3 n (-1) 0 (ops + 2) p 1 _ HF4.out HM.out.1.symm (by omega) (by omega) (by omega)).mono ?_
        rintro e w5 ⟨v, rfl, g6, c6, rfl, hg6, hown6, hb6⟩
        rw [one_at HM.out.2.2.2.1] at hown6 ⊢
        have cv := (Lax.of_own (show w5.ownsRow _ 5 1 (.slice (some ⟨g6, 0, none⟩) 1 c6) 1 (zv [255]) from hown6)).cell (j := 0) (u := .int .u8 255) rfl
        have hF5 := HF4.out.below hb6
        have HF5 := Lib.hid hF5
        have hGc5 := bkeep' hb6 HG4.out
        have cz := wear_cell hGc5 HM.out.2.1
        have HG5 := Lib.hid hGc5
        have HB5 := Lib.hid (belowU HB4.out (Upd.ofBelow' (S := fun _ => False) hb6) (fun _ h => h.elim) (Nat.le_refl _))
        have HWQ := Lib.hid (worn_qn s z1 HF5.out HM.out.2.1)
        have HLQ := Lib.hid (left_qn s z1 HF5.out HM.out.2.1 (by omega) HM.out.2.2.2.2)
        clear hown6 hb6 hF5 hGc5 HB4 HF4 HG4
        go_wp2_with fail
        have hz1 := HZ1.out
        have hwr : IntKind.i64.wrap ((n : Int) - z1) = (n : Int) - z1 := IntWalk.i64_in _ (by omega)
        clear hz1
        go_quiet ((first | (go_at_call 12; exact Calls.quiet_of_same (HWQ.out _)) | (go_at_call 13; exact Calls.quiet_of (HLQ.out _))))
        go_wp2_with fail
        go_roundg (60 - (k + 1))
        case measure => have := HG.out; omega
        case rel => exact ⟨k + 1, by omega, rfl, by go_num, bs3, ws3, ops + 2, HM.out.1, HM.out.2.2.1, HM.out.2.2.2.2, by have := HL.out.2.2.2; omega, HF5.out.drewN _, HG5.out, belowU HB5.out ((Upd.refl (fun _ => False) w5).drewN _) (fun _ h => h.elim) (Nat.le_refl _)⟩
      · go_wp2_with fail
        refine (erase_worn B _ _ (progZ bs p [0] 1) ws n (-1) 0 (ops + 1) s z _ HF2.out HP.out.2.2 (by omega)).mono ?_
        rintro e w3 ⟨rfl, hb3⟩
        obtain ⟨bs3, hbs3⟩ : ∃ bs3, progZ bs p [0] 1 = bs3 := ⟨_, rfl⟩
        have hl3 : bs3.length = 3072 := by rw [← hbs3, progZ_length]; exact HL.out.1
        have hbz3 : bs3[p]? = some 0 := by
          rw [← hbs3, progZ_get _ _ _ _ _ (by have := HL.out.1; omega), if_pos (by omega), Nat.sub_self]
          exact congrArg some (and_zero _)
        have hF3 := HF2.out.below hb3
        rw [hbs3] at hF3
        have hGc3 := bkeep' hb3 HG2.out
        have HB3 := Lib.hid (belowU HB2.out (Upd.ofBelow' (S := fun _ => False) hb3) (fun _ h => h.elim) (Nat.le_refl _))
        have cz := wear_cell hGc3 HP.out.2.2
        have HF3 := Lib.hid hF3
        have HG3 := Lib.hid hGc3
        have HM := Lib.hid (And.intro hl3 hbz3)
        have hzn2 : (n : Int) ≤ z := by omega
        have dz : decide (z < (n : Int)) = false := decide_eq_false (by omega)
        clear hb3 hF3 hGc3 HB2 HF2 HG2 hbs3 hl3 hbz3 hzl
        go_wp2_with fail
        refine (read_ok B g 3072 c _ bs3 ws n (-1) 0 (ops + 1) p 1 _ HF3.out HM.out.1.symm (by omega) (by omega) (by omega)).mono ?_
        rintro e w5 ⟨v, rfl, g6, c6, rfl, hg6, hown6, hb6⟩
        rw [one_at HM.out.2] at hown6 ⊢
        have cv := (Lax.of_own (show w5.ownsRow _ 5 1 (.slice (some ⟨g6, 0, none⟩) 1 c6) 1 (zv [0]) from hown6)).cell (j := 0) (u := .int .u8 0) rfl
        have hF5 := HF3.out.below hb6
        have HF5 := Lib.hid hF5
        have hGc5 := bkeep' hb6 HG3.out
        have cz := wear_cell hGc5 HP.out.2.2
        have HG5 := Lib.hid hGc5
        have HB5 := Lib.hid (belowU HB3.out (Upd.ofBelow' (S := fun _ => False) hb6) (fun _ h => h.elim) (Nat.le_refl _))
        have HWQ := Lib.hid (worn_qn s z HF5.out HP.out.2.2)
        have HLQ := Lib.hid (left_qn s z HF5.out HP.out.2.2 (by omega) HL.out.2.2.1)
        clear hown6 hb6 hF5 hGc5 HB3 HF3 HG3
        go_wp2_with fail
        have hwr : IntKind.i64.wrap ((n : Int) - z) = (n : Int) - z := IntWalk.i64_in _ (by omega)
        go_quiet ((first | (go_at_call 12; exact Calls.quiet_of_same (HWQ.out _)) | (go_at_call 13; exact Calls.quiet_of (HLQ.out _))))
        go_wp2_with fail
        go_roundg (60 - (k + 1))
        case measure => have := HG.out; omega
        case rel => exact ⟨k + 1, by omega, rfl, by go_num, bs3, ws, ops + 1, HM.out.1, HL.out.2.1, HL.out.2.2.1, by have := HL.out.2.2.2; omega, HF5.out.drewN _, HG5.out, belowU HB5.out ((Upd.refl (fun _ => False) w5).drewN _) (fun _ h => h.elim) (Nat.le_refl _)⟩
    · by_cases hkm : k < m
      · obtain rfl : k = 60 := by omega
        have d1 : ((60 : Nat) : Int) < (m : Int) := by omega
        go_wp2_with fail
        refine (known06 _).mono ?_
        rintro e w5 ⟨rfl, hb5⟩
        go_wp2_with fail
        go_ret
        exact ⟨rfl, bstep (B := w.heap.size) (w := w) hb5 HB.out (Nat.le_refl _)⟩
      · have d1 : (m : Int) ≤ (k : Int) := by omega
        clear hk1 hkm
        go_wp2_with fail
        refine (known06 _).mono ?_
        rintro e w5 ⟨rfl, hb5⟩
        go_wp2_with fail
        go_ret
        exact ⟨rfl, bstep (B := w.heap.size) (w := w) hb5 HB.out (Nat.le_refl _)⟩
theorem wears_walk (a0 : Int) (a1 : Option Addr) (m xc : Nat) (zs : List Int) (W : World) (h0 : (Lit.int .u8 a0).wf = true) (h : IsRow .u8 W a1 m xc zs) : Calls Try.prog 3 #[.int .u8 a0, .slice a1 m xc] W fun e w' => e = .returned (.bool true) ∧ Below W.heap.size W w' := by
  obtain ⟨l, hl, hb, _, hm⟩ := h.bytes
  obtain ⟨b0, b1⟩ := wf_bounds h0
  have e0 : IntKind.u8.min = 0 := rfl
  have e1 : IntKind.u8.max = 255 := rfl
  exact wears_said a0 a1 m xc l W (by omega) hl (by unfold maxLen at hm; omega) hb
end Go.Proofs.Ytibgfeammjliiaa
