/-
  LAW FlashTorn: the walk.
-/
import Derived.Test.YtibgfeammjliiaaFlsT
import Derived.Deep.RegionHeld3
import Derived.Deep.CutRange
set_option linter.unusedSimpArgs false
set_option linter.unusedVariables false
namespace Go.Proofs.Ytibgfeammjliiaa
open Go.RowKit
attribute [local go_sem] Oper.semAt_some

theorem zero2 (s : Nat) (hs : s < 2) : ([0, 0] : List Int)[s]? = some 0 := by
  match s, hs with
  | 0, _ => rfl
  | 1, _ => rfl

set_option maxRecDepth 100000 in
set_option maxHeartbeats 16000000 in
theorem torn_said (la : Option Addr) (m lc : Nat) (l : List UInt8) (xa : Option Addr) (xm xc : Nat) (x : List UInt8) (q0 q1 q2 : Int) (w : World)
    (hl : l.length = m) (hm : (m : Int) ≤ 9223372036854775807) (hb : Bytes w la l)
    (hx : x.length = xm) (hxm : (xm : Int) ≤ 9223372036854775807) (hxb : Bytes w xa x) (hxc : xm ≤ xc)
    (h0 : 0 ≤ q0 ∧ q0 < 4294967296) (h1 : 0 ≤ q1 ∧ q1 < 4294967296) (h2 : 0 ≤ q2 ∧ q2 < 4294967296) :
    Calls Try.prog 5 #[.slice la m lc, .slice xa xm xc, .agg #[.int .u32 q0, .int .u32 q1, .int .u32 q2]] w fun e w' => e = .returned (.bool true) ∧ Below w.heap.size w w' := by
  obtain ⟨W, hW⟩ : ∃ W, w.alloc (.cells #[.int .u32 q0, .int .u32 q1, .int .u32 q2] 39) = W := ⟨_, rfl⟩
  have hbx : W.heap[w.heap.size]? = some (.cells #[.int .u32 q0, .int .u32 q1, .int .u32 q2] 39 (0, 0)) := by rw [← hW]; exact heap_alloc_new _ _
  have hBW : Below w.heap.size w W := by rw [← hW]; exact (Below.refl _ w).alloc (Nat.le_refl _) _
  have HC := Lib.hid (fun (W : World) (h : Below w.heap.size w W) => rows_new la m lc l W hl hm (hb.below h))
  have HX := Lib.hid (And.intro hx hxb)
  have hz : ∀ i, i < 2048 → ∃ z, (rowZ l 2048)[i]? = some z := fun i hi => ⟨_, List.getElem?_eq_getElem (by rw [rowZ_length]; exact hi)⟩
  have hlen := rowZ_length l 2048
  have hbyt := rowZ_byte l 2048
  obtain ⟨A, hA⟩ : ∃ A, rowZ l 2048 = A := ⟨_, rfl⟩
  rw [hA] at HC hz hlen hbyt
  have HA := Lib.hid (And.intro hlen (And.intro hz hbyt))
  clear hA hlen hz hx hxb hl hb hbyt
  have HBX := Lib.hid hbx
  have HBW := Lib.hid hBW
  clear hbx hBW
  obtain ⟨h00, h01⟩ := h0
  obtain ⟨h10, h11⟩ := h1
  obtain ⟨h20, h21⟩ := h2
  by_cases h5 : xm ≤ 500 ∧ 0 < xm
  · obtain ⟨h5, h50⟩ := h5
    have d1 : decide ((500 : Int) < (xm : Int)) = false := decide_eq_false (by omega)
    have d0 : ((xm : Int) == 0) = false := beq_eq_false_iff_ne.2 (by omega)
    obtain ⟨nn, hnn⟩ : ∃ nn, 2048 - xm = nn := ⟨_, rfl⟩
    obtain ⟨k, hk⟩ : ∃ k : Nat, q0 % (nn : Int) = (k : Int) := ⟨(q0 % (nn : Int)).toNat, by have := Int.emod_nonneg q0 (show (nn : Int) ≠ 0 by omega); omega⟩
    have hkn : k < nn := by have := Int.emod_lt_of_pos q0 (show (0 : Int) < nn by omega); omega
    obtain ⟨j, hj⟩ : ∃ j : Nat, q1 % (xm : Int) = (j : Int) := ⟨(q1 % (xm : Int)).toNat, by have := Int.emod_nonneg q1 (show (xm : Int) ≠ 0 by omega); omega⟩
    have hjx : j < xm := by have := Int.emod_lt_of_pos q1 (show (0 : Int) < xm by omega); omega
    have hj2 : q1.tmod (xm : Int) = (j : Int) := by rw [Int.tmod_eq_emod_of_nonneg h10]; exact hj
    have hk2 : q0.tmod (nn : Int) = (k : Int) := by rw [Int.tmod_eq_emod_of_nonneg h00]; exact hk
    have d2 : (2048 : Int) - (xm : Int) = (nn : Int) := by omega
    have hkx : k + xm ≤ 2048 := by omega
    obtain ⟨s, hs⟩ : ∃ s, k / 1024 = s := ⟨_, rfl⟩
    have d3 : (k : Int) / 1024 = (s : Int) := by omega
    have hs2 : s < 2 := by omega
    have hnn0 : 0 < (nn : Int) := by omega
    have hnz : ((nn : Int) == 0) = false := beq_eq_false_iff_ne.2 (by omega)
    have HK := Lib.hid (And.intro hkx (And.intro hs hs2))
    have HD := Lib.hid (And.intro d2 (And.intro d3 (And.intro hk (And.intro hj (And.intro hj2 hk2)))))
    obtain ⟨hk0, hkb⟩ : k < 2048 ∧ s ≤ 1 := by omega
    obtain ⟨x0, hx0⟩ : ∃ x0, (bytesI x)[j]? = some x0 := ⟨_, List.getElem?_eq_getElem (by rw [bytesI_length, HX.out.1]; exact hjx)⟩
    obtain ⟨z0, hz0⟩ := HA.out.2.1 (k + j) (by omega)
    have HXZ := Lib.hid (And.intro hx0 hz0)
    clear hk hk2 hnn hs d2 d3 hj hj2 hx0 hz0
    go_enter Try.func5, Try.ntmps5
    go_wp2_with fail
    clear hW
    refine (HC.out _ HBW.out).mono ?_
    rintro e w1 ⟨B, g, c, g2, c2, rfl, hF1, hS, hb1⟩
    have HF1 := Lib.hid hF1
    have HS := Lib.hid (And.intro hS hF1.lts)
    have HB1 := Lib.hid (belowU HBW.out (Upd.ofBelow' (S := fun _ => False) hb1) (fun _ h => h.elim) (Nat.le_refl _))
    have HBX1 := Lib.hid (bkeep' hb1 HBX.out)
    have hwW := HBW.out.size
    have HWX := Lib.hid (lt_of_block HBX.out)
    clear hF1 hS hb1 HBX
    go_wp2_with fail
    refine (HC.out _ HB1.out).mono ?_
    rintro e w2 ⟨C, p, pc, p2, pc2, rfl, hG2, hT, hb2⟩
    have HG2 := Lib.hid hG2
    have HF2 := Lib.hid (HF1.out.below hb2)
    have HT := Lib.hid (And.intro hT hG2.lts)
    have HB2 := Lib.hid (belowU HB1.out (Upd.ofBelow' (S := fun _ => False) hb2) (fun _ h => h.elim) (Nat.le_refl _))
    have HBX2 := Lib.hid (bkeep' hb2 HBX1.out)
    clear hG2 hT hb2 HC HF1 HB1 HBX1
    obtain ⟨u0, u1, u2⟩ := cells3' HBX2.out
    have HN := Lib.hid (show (w.heap.size < B ∧ w.heap.size < g ∧ w.heap.size < g2 ∧ w.heap.size < C ∧ w.heap.size < p ∧ w.heap.size < p2) ∧ (C ≠ B ∧ C ≠ g ∧ C ≠ g2 ∧ p ≠ B ∧ p ≠ g ∧ p ≠ g2 ∧ p2 ≠ B ∧ p2 ≠ g ∧ p2 ≠ g2) from by have := HS.out; have := HT.out; have := HWX.out; omega)
    have dd2 := HD.out.1
    have dk := HD.out.2.2.1
    have dk2 := HD.out.2.2.2.2.2
    go_wp2_with fail
    clear dd2 dk dk2
    refine (bytes_any B g 2048 c _ A _ _ _ _ _ _ w2 HF2.out HA.out.1.symm (by omega) (by omega)).mono ?_
    rintro e w3 ⟨v, rfl, ga, ca, rfl, hga, hown3, hb3⟩
    rw [HA.out.1] at hown3 ⊢
    have HLA3 := Lib.hid (Lax.of_own hown3)
    have HF3 := Lib.hid (HF2.out.below hb3)
    have HG3 := Lib.hid (HG2.out.below hb3)
    have HBX3 := Lib.hid (bkeep' hb3 HBX2.out)
    have HB3 := Lib.hid (belowU HB2.out (Upd.ofBelow' (S := fun _ => False) hb3) (fun _ h => h.elim) (Nat.le_refl _))
    have HNA := Lib.hid (show w.heap.size ≠ ga ∧ B ≠ ga ∧ g ≠ ga ∧ g2 ≠ ga ∧ C ≠ ga ∧ p ≠ ga ∧ p2 ≠ ga from by have := HT.out; have := HS.out; have := HWX.out; omega)
    clear hga hown3 hb3 HF2 HG2 HB2 HBX2 u0 u1 u2
    obtain ⟨u0, u1, u2⟩ := cells3' HBX3.out
    have hcut : Hid (∀ W', (∃ N, W' = w3.drewN N) → Calls Try.prog 18 #[.pointer (some ⟨B, 0, none⟩), .int .i64 (j : Int), .int .u32 q2] W' fun e w' => e = .returned (.int .i64 0) ∧ Fls w' B (.slice (some ⟨g, 0, none⟩) 2048 c) (.slice (some ⟨g2, 0, none⟩) 2 c2) A [0, 0] 5 false (j : Int) q2 0 ∧ Upd (· = B) w3 w') := by
      rintro W' ⟨N, rfl⟩
      refine (cut_any B _ _ A [0, 0] 5 false (-1) 0 0 j q2 _ (HF3.out.drewN N) (by omega)).mono ?_
      rintro e w' ⟨e1, e2, e3⟩
      exact ⟨e1, e2, ((Upd.refl (· = B) w3).drewN N).trans e3 (fun _ _ h => h)⟩
    have dj := HD.out.2.2.2.1
    have dj2 := HD.out.2.2.2.2.1
    have hxi : (1 : Int) ≤ (xm : Int) := by omega
    have hw1 : IntKind.i64.wrap q1 = q1 := IntWalk.i64_in _ (by omega)
    have hw2 : IntKind.i64.wrap (j : Int) = (j : Int) := IntWalk.i64_in _ (by omega)
    have hz2 : ¬ xm = 0 := by omega
    have hxi2 : (0 : Int) < (xm : Int) := by omega
    have hBw : B ≠ w.heap.size := by have := HN.out; omega
    go_wp2_with fail
    go_region_held3 (fun w' => w'.cell? ⟨w.heap.size, 1, none⟩ = some (.int .u32 q1) ∧ w'.cell? ⟨w.heap.size, 2, none⟩ = some (.int .u32 q2))
      (first
        | go_keep
        | (go_split_ands; exact ⟨hU4.cell_some u1 (fun h => hBw h.symm), hU4.cell_some u2 (fun h => hBw h.symm)⟩))
      (first
        | (go_at_call 18; refine (hcut.out _ ⟨_, rfl⟩).mono ?_; rintro e w4 ⟨rfl, hF4, hU4⟩))
    have HF4 := Lib.hid hF4
    have HG4 := Lib.hid (HG3.out.upd hU4 (by have := HN.out; omega) (fun j hj => by have e : p = j := Option.some.inj hj; have := HN.out; omega) (fun j hj => by have e : p2 = j := Option.some.inj hj; have := HN.out; omega))
    have HLA4 := Lib.hid (HLA3.out.upd hU4 (fun j hj h => by have e : ga = j := Option.some.inj hj; have := HNA.out; omega))
    have HB4 := Lib.hid (belowU HB3.out hU4 (fun i h => by have := HN.out; omega) (Nat.le_refl _))
    have HBX4 := Lib.hid (hU4.block_some HBX3.out (fun h => hBw h.symm))
    clear hF4 hU4 hcut dj dj2 hw1 hw2 hz2 hxi hxi2 HF3 HG3 HLA3 HB3 HBX3 u0 u1 u2
    obtain ⟨u0, u1, u2⟩ := cells3' HBX4.out
    go_wp2_with fail
    refine (cut_any C _ _ A [0, 0] 5 false (-1) 0 0 0 q2 _ HG4.out (by omega)).mono ?_
    rintro e w5 ⟨rfl, hG5, hU5⟩
    have HG5 := Lib.hid hG5
    have HF5 := Lib.hid (HF4.out.upd hU5 (by have := HN.out; omega) (fun j hj => by have e : g = j := Option.some.inj hj; have := HN.out; omega) (fun j hj => by have e : g2 = j := Option.some.inj hj; have := HN.out; omega))
    have HLA5 := Lib.hid (HLA4.out.upd hU5 (fun j hj h => by have e : ga = j := Option.some.inj hj; have := HNA.out; omega))
    have HB5 := Lib.hid (belowU HB4.out hU5 (fun i h => by have := HN.out; omega) (Nat.le_refl _))
    clear hG5 hU5 HF4 HG4 HLA4 HB4 HBX4 u0 u1 u2
    go_wp2_with fail
    (with_reducible refine (prog_torn B g 2048 c _ A [0, 0] 5 q2 0 k xa (bytesI x) xc xm j _ HF5.out HA.out.1.symm HK.out.1 (by rw [bytesI_length]; exact HX.out.1.symm) (reads_of HX.out.2 HB5.out (by have := HN.out; omega) (by have := HN.out; omega)) (by omega) (by omega) hxc hjx x0 z0 HXZ.out.1 HXZ.out.2).mono ?_)
    rintro e w6 ⟨rfl, hF6, hU6⟩
    obtain ⟨Is, hIs⟩ : ∃ Is, (progZ A k (bytesI x) j).set (k + j) (someZ z0 x0 q2) = Is := ⟨_, rfl⟩
    have hIl : Is.length = 2048 := by rw [← hIs, List.length_set, progZ_length]; exact HA.out.1
    rw [hIs] at hF6
    have HI := Lib.hid (And.intro hIs hIl)
    have HF6 := Lib.hid hF6
    have HG6 := Lib.hid (HG5.out.upd hU6 (fun h => by have := HN.out; omega) (fun j hj h => by have e : p = j := Option.some.inj hj; have := HN.out; omega) (fun j hj h => by have e : p2 = j := Option.some.inj hj; have := HN.out; omega))
    have HLA6 := Lib.hid (HLA5.out.upd hU6 (fun j hj h => by have e : ga = j := Option.some.inj hj; have := HNA.out; omega))
    have HB6 := Lib.hid (belowU HB5.out hU6 (fun i h => by have := HN.out; omega) (Nat.le_refl _))
    clear hIs hIl hF6 hU6 HF5 HG5 HLA5 HB5
    have dd3 := HD.out.2.1
    go_wp2_with fail
    clear dd3
    refine (erase_torn C p 2048 pc p2 2 pc2 A [0, 0] 5 q2 0 s 0 _ HG6.out HA.out.1.symm rfl (zero2 s HK.out.2.2) (by omega) (by omega) (by have := HK.out; omega) (by omega) ⟨h20, h21⟩).mono ?_
    rintro e w7 ⟨rfl, hG7, hU7⟩
    obtain ⟨Ba, hBa⟩ : ∃ Ba, fillZ A (s * 1024) (cutN q2) = Ba := ⟨_, rfl⟩
    have hBl : Ba.length = 2048 := by rw [← hBa, fillZ_length]; exact HA.out.1
    rw [hBa] at hG7
    have HBa := Lib.hid (And.intro hBa hBl)
    have HG7 := Lib.hid hG7
    have HF7 := Lib.hid (HF6.out.upd hU7 (fun h => by have := HN.out; omega) (fun j hj h => by have e : g = j := Option.some.inj hj; have := HN.out; omega) (fun j hj h => by have e : g2 = j := Option.some.inj hj; have := HN.out; omega))
    have HLA7 := Lib.hid (HLA6.out.upd hU7 (fun j hj h => by have e : ga = j := Option.some.inj hj; have := HNA.out; omega))
    have HB7 := Lib.hid (belowU HB6.out hU7 (fun i h => by have := HN.out; omega) (Nat.le_refl _))
    clear hBa hBl hG7 hU7 HF6 HG6 HLA6 HB6
    go_wp2_with fail
    refine (on_any B _ _ _ _ _ _ _ _ _ w7 HF7.out).mono ?_
    rintro e w8 ⟨rfl, rfl⟩
    go_wp2_with fail
    refine (on_any C _ _ _ _ _ _ _ _ _ w7 HG7.out).mono ?_
    rintro e w8 ⟨rfl, rfl⟩
    go_wp2_with fail
    refine (bytes_any B g 2048 c _ Is _ _ _ _ _ _ w7 HF7.out HI.out.2.symm (by omega) (by omega)).mono ?_
    rintro e w8 ⟨v, rfl, gi, ci, rfl, hgi, hown8, hb8⟩
    rw [HI.out.2] at hown8 ⊢
    have HLI8 := Lib.hid (Lax.of_own hown8)
    have HF8 := Lib.hid (HF7.out.below hb8)
    have HG8 := Lib.hid (HG7.out.below hb8)
    have HLA8 := Lib.hid (HLA7.out.below hb8)
    have HB8 := Lib.hid (belowU HB7.out (Upd.ofBelow' (S := fun _ => False) hb8) (fun _ h => h.elim) (Nat.le_refl _))
    have HNI := Lib.hid (show B ≠ gi ∧ g ≠ gi ∧ g2 ≠ gi from by have := HF7.out.lts; omega)
    clear hgi hown8 hb8 HF7 HG7 HLA7 HB7
    go_wp2_with fail
    refine (bytes_any C p 2048 pc _ Ba _ _ _ _ _ _ w8 HG8.out HBa.out.2.symm (by omega) (by omega)).mono ?_
    rintro e w9 ⟨v, rfl, gb, cb, rfl, hgb, hown9, hb9⟩
    rw [HBa.out.2] at hown9 ⊢
    have HLB9 := Lib.hid (Lax.of_own hown9)
    have HF9 := Lib.hid (HF8.out.below hb9)
    have HG9 := Lib.hid (HG8.out.below hb9)
    have HLA9 := Lib.hid (HLA8.out.below hb9)
    have HLI9 := Lib.hid (HLI8.out.below hb9)
    have HB9 := Lib.hid (belowU HB8.out (Upd.ofBelow' (S := fun _ => False) hb9) (fun _ h => h.elim) (Nat.le_refl _))
    have HNB := Lib.hid (show B ≠ gb ∧ g ≠ gb ∧ g2 ≠ gb from by have := HF8.out.lts; omega)
    clear hgb hown9 hb9 HF8 HG8 HLA8 HLI8 HB8
    go_wp2_with fail
    refine (start_any B _ _ Is _ _ _ _ _ _ w9 HF9.out).mono ?_
    rintro e w10 ⟨rfl, hF10, hU10⟩
    have HF10 := Lib.hid hF10
    have HG10 := Lib.hid (HG9.out.upd hU10 (by have := HN.out; omega) (fun j hj => by have e : p = j := Option.some.inj hj; have := HN.out; omega) (fun j hj => by have e : p2 = j := Option.some.inj hj; have := HN.out; omega))
    have HLA10 := Lib.hid (HLA9.out.upd hU10 (fun j hj h => by have e : ga = j := Option.some.inj hj; have := HNA.out; omega))
    have HLI10 := Lib.hid (HLI9.out.upd hU10 (fun j hj h => by have e : gi = j := Option.some.inj hj; have := HNI.out; omega))
    have HLB10 := Lib.hid (HLB9.out.upd hU10 (fun j hj h => by have e : gb = j := Option.some.inj hj; have := HNB.out; omega))
    have HB10 := Lib.hid (belowU HB9.out hU10 (fun i h => by have := HN.out; omega) (Nat.le_refl _))
    clear hF10 hU10 HF9 HG9 HLA9 HLI9 HLB9 HB9
    go_wp2_with fail
    refine (prog_whole B g 2048 c _ Is [0, 0] 5 q2 _ k xa (bytesI x) xc xm _ HF10.out HI.out.2.symm HK.out.1 (by rw [bytesI_length]; exact HX.out.1.symm) (reads_of HX.out.2 HB10.out (by have := HN.out; omega) (by have := HN.out; omega)) (by omega) (by omega) hxc).mono ?_
    rintro e w11 ⟨rfl, hF11, hU11⟩
    obtain ⟨Fu, hFu⟩ : ∃ Fu, progZ Is k (bytesI x) xm = Fu := ⟨_, rfl⟩
    have hFl : Fu.length = 2048 := by rw [← hFu, progZ_length]; exact HI.out.2
    rw [hFu] at hF11
    have HFu := Lib.hid (And.intro hFu hFl)
    have HF11 := Lib.hid hF11
    have HG11 := Lib.hid (HG10.out.upd hU11 (fun h => by have := HN.out; omega) (fun j hj h => by have e : p = j := Option.some.inj hj; have := HN.out; omega) (fun j hj h => by have e : p2 = j := Option.some.inj hj; have := HN.out; omega))
    have HLA11 := Lib.hid (HLA10.out.upd hU11 (fun j hj h => by have e : ga = j := Option.some.inj hj; have := HNA.out; omega))
    have HLI11 := Lib.hid (HLI10.out.upd hU11 (fun j hj h => by have e : gi = j := Option.some.inj hj; have := HNI.out; omega))
    have HLB11 := Lib.hid (HLB10.out.upd hU11 (fun j hj h => by have e : gb = j := Option.some.inj hj; have := HNB.out; omega))
    have HB11 := Lib.hid (belowU HB10.out hU11 (fun i h => by have := HN.out; omega) (Nat.le_refl _))
    clear hFu hFl hF11 hU11 HF10 HG10 HLA10 HLI10 HLB10 HB10
    go_wp2_with fail
    refine (bytes_any B g 2048 c _ Fu _ _ _ _ _ _ w11 HF11.out HFu.out.2.symm (by omega) (by omega)).mono ?_
    rintro e w12 ⟨v, rfl, gf, cf, rfl, hgf, hown12, hb12⟩
    rw [HFu.out.2] at hown12 ⊢
    have HLF := Lib.hid (Lax.of_own hown12)
    have HG12 := Lib.hid (HG11.out.below hb12)
    have HLA := Lib.hid (HLA11.out.below hb12)
    have HLI := Lib.hid (HLI11.out.below hb12)
    have HLB := Lib.hid (HLB11.out.below hb12)
    have HB12 := Lib.hid (belowU HB11.out (Upd.ofBelow' (S := fun _ => False) hb12) (fun _ h => h.elim) (Nat.le_refl _))
    clear hgf hown12 hb12 HF11 HG11 HLA11 HLI11 HLB11 HB11
    have HW1 := worn_any C _ _ Ba _ 5 _ _ _ _ (s : Int) w12 HG12.out
    rw [wornZ_one s HK.out.2.2] at HW1
    have HW1 := Lib.hid HW1
    have dd3 := HD.out.2.1
    go_wp2_with fail
    (with_reducible refine HW1.out.mono ?_)
    rintro e w13 ⟨rfl, rfl⟩
    clear dd3 HW1
    go_wp2_with fail
    go_loopg [18, 19] 2048 (fun gg mv i wr => ∃ j N : Nat, ∃ mb : Bool, j ≤ 2048 ∧ gg = 2048 - j ∧ i = .int .i64 (j : Int) ∧ mv = .bool mb ∧ (mb = true → s * 1024 + cutN q2 ≤ j) ∧ wr = w12.drewN N)
    case atStart => exact ⟨0, 0, false, by omega, by omega, rfl, rfl, (fun h => by cases h), rfl⟩
    case round =>
      obtain ⟨i, N, mb, hi, hgi, rfl, rfl, hmb, rfl⟩ := hrel
      have HG := Lib.hid hgi
      have HMB := Lib.hid hmb
      clear hgi hmb
      by_cases hi2 : i < 2048
      · have di : (i : Int) < 2048 := by omega
        obtain ⟨zA, hzA⟩ := HA.out.2.1 i hi2
        obtain ⟨y, v, hT⟩ : ∃ y v, TornAt A (bytesI x) Is Fu k xm i zA y v := by
          have := torn_at A (bytesI x) k xm j x0 z0 q2 HA.out.2.2 (bytesI_byte x) (by rw [bytesI_length]; exact HX.out.1) (by rw [HA.out.1]; exact HK.out.1) hjx HXZ.out.1 HXZ.out.2 i zA hzA
          rw [HI.out.1, HFu.out.1] at this
          exact this
        have cA : w12.cell? ⟨ga, i, none⟩ = some (.int .u8 zA) := HLA.out.cell (by unfold zv; rw [List.getElem?_map, hzA]; rfl)
        have cI : w12.cell? ⟨gi, i, none⟩ = some (.int .u8 v) := HLI.out.cell (by unfold zv; rw [List.getElem?_map, hT.is]; rfl)
        have cF : w12.cell? ⟨gf, i, none⟩ = some (.int .u8 y) := HLF.out.cell (by unfold zv; rw [List.getElem?_map, hT.full]; rfl)
        obtain ⟨zB, hzB, HAB, hearly⟩ : ∃ zB, Ba[i]? = some zB ∧ Hid (¬ (s * 1024 ≤ i ∧ i < s * 1024 + cutN q2) → zB = zA) ∧ (s * 1024 ≤ i ∧ i < s * 1024 + cutN q2 → zB = 255) := by
          have hcn : cutN q2 ≤ 1024 := by unfold cutN; omega
          have hg := fillZ_get A (s * 1024) (cutN q2) i (by have := HA.out.1; have := HK.out; omega)
          rw [HBa.out.1] at hg
          by_cases hc : s * 1024 ≤ i ∧ i < s * 1024 + cutN q2
          · rw [if_pos hc] at hg
            exact ⟨_, hg, fun h => absurd hc h, fun _ => rfl⟩
          · rw [if_neg hc, hzA] at hg
            exact ⟨_, hg, fun _ => rfl, fun h => absurd h hc⟩
        have cB : w12.cell? ⟨gb, i, none⟩ = some (.int .u8 zB) := HLB.out.cell (by unfold zv; rw [List.getElem?_map, hzB]; rfl)
        obtain ⟨r, hr⟩ : ∃ r, i / 1024 = r := ⟨_, rfl⟩
        have HR := Lib.hid (show (i : Int) / 1024 = (r : Int) by omega)
        have HRI := Lib.hid (show r * 1024 ≤ i ∧ i < r * 1024 + 1024 ∧ r < 2 by omega)
        have HCN : Hid (cutN q2 ≤ 1024) := by show cutN q2 ≤ 1024; unfold cutN; omega
        have hlate : r = s → ¬ (mb = false ∧ zB = 255) → s * 1024 + cutN q2 ≤ i := by
          intro e h
          subst e
          by_cases hm : mb = true
          · exact HMB.out hm
          · have hmf : mb = false := by cases mb; rfl; exact absurd rfl hm
            have hz : ¬ zB = 255 := fun e => h ⟨hmf, e⟩
            have h1 := fun h => hz (hearly h)
            have h2 := HRI.out
            by_cases h3 : r * 1024 + cutN q2 ≤ i
            · exact h3
            · exact absurd ⟨h2.1, by omega⟩ h1
        have HLATE0 := Lib.hid hlate
        have HT := Lib.hid hT
        have b1 := hT.less
        have b2 := hT.more
        clear hT hzA hzB hearly hlate hr
        go_upto_region 24 with fail
        go_cut [158] from 140 to 244 (fun o wx => o = .bool (decide (k ≤ i ∧ i < k + xm)) ∧ ∃ N', wx = w12.drewN N')
        case first =>
          by_cases hki : k ≤ i
          · have e1 : (k : Int) ≤ (i : Int) := by omega
            by_cases hkx : i < k + xm
            · have e2 : (i : Int) < (k : Int) + (xm : Int) := by omega
              go_wp2_with fail
              go_meet
              case rel => exact ⟨by rw [decide_eq_true (show k ≤ i ∧ i < k + xm by omega)], _, rfl⟩
            · have e2 : (k : Int) + (xm : Int) ≤ (i : Int) := by omega
              go_wp2_with fail
              go_meet
              case rel => exact ⟨by rw [decide_eq_false (show ¬ (k ≤ i ∧ i < k + xm) by omega)]; exact congrArg Value.bool (decide_eq_false (by omega)), _, rfl⟩
          · have e1 : (i : Int) < (k : Int) := by omega
            go_wp2_with fail
            go_meet
            case rel => exact ⟨by rw [decide_eq_false (show ¬ (k ≤ i ∧ i < k + xm) by omega)], _, rfl⟩
        case rest =>
          obtain ⟨rfl, N1, rfl⟩ := hcut
          obtain ⟨bI, hbI⟩ : ∃ bI, decide (k ≤ i ∧ i < k + xm) = bI := ⟨_, rfl⟩
          have HBI := Lib.hid hbI
          rw [hbI]
          clear hbI
          go_upto_if 158 with fail
          go_cut [20] from 140 to 244 (fun o wx => o = .int .u8 y ∧ ∃ N', wx = w12.drewN N')
          case first =>
            cases bI with
            | true =>
              obtain ⟨hin1, hin2⟩ := of_decide_eq_true HBI.out
              obtain ⟨o, ho⟩ : ∃ o, i - k = o := ⟨_, rfl⟩
              have hox : o < xm := by omega
              have hol : o < x.length := by rw [HX.out.1]; exact hox
              obtain ⟨xb, xo, rfl, hxc2⟩ := HX.out.2.resolve_left (fun e => by rw [e] at hol; simp at hol)
              have hc := hxc2 o hol
              have hlt := World.block_lt_of_cell? w _ hc
              have cX := (HB12.out.cell hlt).trans hc
              obtain ⟨xv, hxv⟩ : ∃ xv : Int, ((x[o]'hol).toNat : Int) = xv := ⟨_, rfl⟩
              rw [hxv] at cX
              have hy := HT.out.inn xv hin1 hin2 (by rw [ho]; unfold bytesI; rw [List.getElem?_map, List.getElem?_eq_getElem hol, ← hxv]; rfl)
              have e1 : (k : Int) ≤ (i : Int) := by omega
              have e3 : (i : Int) - (k : Int) = (o : Int) := by omega
              clear hc hxc2 ho hxv
              go_wp2_with fail
              go_quiet (fail)
              go_wp2_with fail
              go_meet
              case rel => exact ⟨rfl, N1 + nq, by simp [World.drewN_drewN]⟩
            | false =>
              obtain rfl := HT.out.out (of_decide_eq_false HBI.out)
              go_wp2_with fail
              go_meet
              case rel => exact ⟨rfl, _, rfl⟩
          case rest =>
            obtain ⟨rfl, N', rfl⟩ := hcut
            by_cases hrs : r = s
            · subst hrs
              by_cases hb : mb = false ∧ zB = 255
              · obtain ⟨rfl, rfl⟩ := hb
                clear HAB
                go_wp2_with fail
                go_quiet (fail)
                go_wp2_with fail
                have d3 := HD.out.2.1
                have dr := HR.out
                go_quiet (fail)
                go_wp2_with fail
                clear d3 dr
                go_quiet (fail)
                go_wp2_with fail
                go_roundg (2048 - (i + 1))
                case measure => have := HG.out; omega
                case rel => exact ⟨i + 1, _, false, by omega, rfl, by go_num, rfl, (fun h => by cases h), rfl⟩
              · have hlate := HLATE0.out rfl hb
                obtain rfl := HAB.out (fun h => by omega)
                cases mb with
                | true =>
                  by_cases hz : zB = 255
                  · subst hz
                    go_wp2_with fail
                    go_quiet (fail)
                    go_wp2_with fail
                    have d3 := HD.out.2.1
                    have dr := HR.out
                    go_quiet (fail)
                    go_wp2_with fail
                    clear d3 dr
                    go_quiet (fail)
                    go_wp2_with fail
                    go_roundg (2048 - (i + 1))
                    case measure => have := HG.out; omega
                    case rel => exact ⟨i + 1, _, true, by omega, rfl, by go_num, rfl, (fun _ => by omega), rfl⟩
                  · have hzb : (zB == 255) = false := beq_eq_false_iff_ne.2 hz
                    clear hz
                    go_wp2_with fail
                    go_quiet (fail)
                    go_wp2_with fail
                    have d3 := HD.out.2.1
                    have dr := HR.out
                    go_quiet (fail)
                    go_wp2_with fail
                    clear d3 dr
                    go_quiet (fail)
                    go_wp2_with fail
                    go_roundg (2048 - (i + 1))
                    case measure => have := HG.out; omega
                    case rel => exact ⟨i + 1, _, true, by omega, rfl, by go_num, rfl, (fun _ => by omega), rfl⟩
                | false =>
                  have hz : ¬ zB = 255 := fun h => hb ⟨rfl, h⟩
                  have hzb : (zB == 255) = false := beq_eq_false_iff_ne.2 hz
                  clear hz hb
                  go_wp2_with fail
                  go_quiet (fail)
                  go_wp2_with fail
                  have d3 := HD.out.2.1
                  have dr := HR.out
                  go_quiet (fail)
                  go_wp2_with fail
                  clear d3 dr
                  go_quiet (fail)
                  go_wp2_with fail
                  go_roundg (2048 - (i + 1))
                  case measure => have := HG.out; omega
                  case rel => exact ⟨i + 1, _, true, by omega, rfl, by go_num, rfl, (fun _ => by omega), rfl⟩
            · obtain rfl := HAB.out (fun h => by have := HRI.out; have := HK.out; have := HCN.out; omega)
              have n1 : ((r : Int) == (s : Int)) = false := beq_eq_false_iff_ne.2 (by omega)
              have n2 : ((r : Int) != (s : Int)) = true := bne_iff_ne.2 (by omega)
              have n3 : (r == s) = false := beq_eq_false_iff_ne.2 hrs
              have n4 : (r != s) = true := bne_iff_ne.2 hrs
              have HMB2 : Hid (mb = true → s * 1024 + cutN q2 ≤ i + 1) := fun h => by have := HMB.out h; omega
              clear hrs
              go_wp2_with fail
              go_quiet (fail)
              go_wp2_with fail
              have d3 := HD.out.2.1
              have dr := HR.out
              go_quiet (fail)
              go_wp2_with fail
              clear d3 dr
              go_roundg (2048 - (i + 1))
              case measure => have := HG.out; omega
              case rel => exact ⟨i + 1, _, mb, by omega, rfl, by go_num, rfl, HMB2.out, rfl⟩
      · obtain rfl : i = 2048 := by omega
        clear hi2
        go_wp2_with fail
        refine (known06 _).mono ?_
        rintro e w13 ⟨rfl, hb13⟩
        go_wp2_with fail
        go_ret
        exact ⟨rfl, bstep (B := w.heap.size) (w := w) hb13 (belowU HB12.out ((Upd.refl (fun _ => False) w12).drewN N) (fun _ h => h.elim) (Nat.le_refl _)) (Nat.le_refl _)⟩
  · by_cases h6 : xm = 0
    · subst h6
      go_enter Try.func5, Try.ntmps5
      go_wp2_with fail
      clear hW
      refine (HC.out _ HBW.out).mono ?_
      rintro e w1 ⟨B, g, c, g2, c2, rfl, hF1, hS, hb1⟩
      have HB1 := Lib.hid (belowU HBW.out (Upd.ofBelow' (S := fun _ => False) hb1) (fun _ h => h.elim) (Nat.le_refl _))
      clear hF1 hS hb1
      go_wp2_with fail
      refine (HC.out _ HB1.out).mono ?_
      rintro e w2 ⟨C, p, pc, p2, pc2, rfl, hG2, hT, hb2⟩
      have HB2 := Lib.hid (belowU HB1.out (Upd.ofBelow' (S := fun _ => False) hb2) (fun _ h => h.elim) (Nat.le_refl _))
      clear hG2 hT hb2
      go_wp2_with fail
      refine (known06 _).mono ?_
      rintro e w13 ⟨rfl, hb13⟩
      go_wp2_with fail
      go_ret
      exact ⟨rfl, bstep (B := w.heap.size) (w := w) hb13 HB2.out (Nat.le_refl _)⟩
    · have d1 : decide ((500 : Int) < (xm : Int)) = true := decide_eq_true (by omega)
      clear h6 h5
      go_enter Try.func5, Try.ntmps5
      go_wp2_with fail
      clear hW
      refine (HC.out _ HBW.out).mono ?_
      rintro e w1 ⟨B, g, c, g2, c2, rfl, hF1, hS, hb1⟩
      have HB1 := Lib.hid (belowU HBW.out (Upd.ofBelow' (S := fun _ => False) hb1) (fun _ h => h.elim) (Nat.le_refl _))
      clear hF1 hS hb1
      go_wp2_with fail
      refine (HC.out _ HB1.out).mono ?_
      rintro e w2 ⟨C, p, pc, p2, pc2, rfl, hG2, hT, hb2⟩
      have HB2 := Lib.hid (belowU HB1.out (Upd.ofBelow' (S := fun _ => False) hb2) (fun _ h => h.elim) (Nat.le_refl _))
      clear hG2 hT hb2
      go_wp2_with fail
      refine (known06 _).mono ?_
      rintro e w13 ⟨rfl, hb13⟩
      go_wp2_with fail
      go_ret
      exact ⟨rfl, bstep (B := w.heap.size) (w := w) hb13 HB2.out (Nat.le_refl _)⟩
end Go.Proofs.Ytibgfeammjliiaa
