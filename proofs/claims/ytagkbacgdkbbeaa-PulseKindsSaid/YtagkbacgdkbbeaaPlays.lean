/-
  LAW PulsePlays: the walk.
-/
import Derived.Test.YtagkbacgdkbbeaaKnown28
import Derived.Test.YtagkbacgdkbbeaaOpen
import Derived.Test.YtagkbacgdkbbeaaFrame
import Derived.Test.YtagkbacgdkbbeaaLent
set_option linter.unusedSimpArgs false
set_option linter.unusedVariables false
namespace Go.Proofs.Ytagkbacgdkbbeaa
open Go.RowKit
attribute [local go_sem] Oper.semAt_some

/-- A frame as it lies in a list. -/
structure Fr where
  id : Int
  rem : Bool
  l : List UInt8
  ad : Option Addr
  cap : Nat

def FrOk (w : World) (b off i : Nat) (f : Fr) : Prop :=
  ElemAt w b off 3 i [.int .i64 f.id, .bool f.rem, .slice f.ad f.l.length f.cap] ∧ Bytes w f.ad f.l ∧ (f.ad = none → f.cap = 0) ∧ (f.l.length : Int) ≤ 9223372036854775807
theorem FrOk.below {w w' : World} {b off i : Nat} {f : Fr} (h : FrOk w b off i f) (hb : Below w.heap.size w w') : FrOk w' b off i f := ⟨h.1.below hb, h.2.1.below hb, h.2.2⟩
theorem FrOk.cells {w : World} {b off i : Nat} {f : Fr} (h : FrOk w b off i f) :
    w.cell? ⟨b, off + i * 3, none⟩ = some (.int .i64 f.id) ∧ w.cell? ⟨b, off + i * 3 + 1, none⟩ = some (.bool f.rem) ∧ w.cell? ⟨b, off + i * 3 + 2, none⟩ = some (.slice f.ad f.l.length f.cap) :=
  ⟨h.1.2 0 _ rfl, h.1.2 1 _ rfl, h.1.2 2 _ rfl⟩

def Frames (w : World) (a : Option Addr) (n : Nat) : Prop := n = 0 ∨ ∃ b off, a = some ⟨b, off, none⟩ ∧ b < w.heap.size ∧ ∀ i, i < n → ∃ f : Fr, FrOk w b off i f

theorem seen_q (b : Nat) (id o s : Int) (w : World) (hb : w.heap[b]? = some (.cells #[.int .i64 id, .int .i64 o, .int .i64 s] 46 (0, 0))) :
    Calls Try.prog 19 #[.pointer (some ⟨b, 0, none⟩)] w fun e w' => e = .returned (.int .i64 s) ∧ w' = w := (seen_any b id o s w hb).mono fun _ _ h => ⟨h.1, h.2.symm⟩
theorem pid_q (b : Nat) (id o s : Int) (w : World) (hb : w.heap[b]? = some (.cells #[.int .i64 id, .int .i64 o, .int .i64 s] 46 (0, 0))) :
    Calls Try.prog 20 #[.pointer (some ⟨b, 0, none⟩)] w fun e w' => e = .returned (.int .i64 id) ∧ w' = w := (pid_any b id o s w hb).mono fun _ _ h => ⟨h.1, h.2.symm⟩
theorem kept_q (l : List UInt8) (a : Option Addr) (cap : Nat) (g cap' base : Nat) (w : World) (hl : l.length ≤ 70368744177664) (hB : Bytes w a l) (hn : a = none → cap = 0)
    (hown : w.ownsRow base 5 1 (.slice (some ⟨g, 0, none⟩) (l.length + 1) cap') (l.length + 1) (bv (l ++ [77]))) :
    Calls Try.prog 21 #[.slice (some ⟨g, 0, none⟩) l.length cap', .slice a l.length cap] w fun e w' => e = .returned (.bool true) ∧ w' = w := (kept_any l a cap g cap' base w hl hB hn hown).mono fun _ _ h => ⟨h.1, h.2.symm⟩

theorem own_updS {S : Nat → Prop} {w w' : World} {base e size n g cap m : Nat} {xs : List Value} (h : w.ownsRow base e size (.slice (some ⟨g, 0, none⟩) m cap) n xs) (hu : Upd S w w') (hn : ¬ S g) : w'.ownsRow base e size (.slice (some ⟨g, 0, none⟩) m cap) n xs := by
  refine ⟨h.1, ?_⟩
  rcases h.2 with ⟨e, _⟩ | ⟨g', c', cur, e, hg, hh, rest⟩
  · cases e
  · cases e
    exact .inr ⟨g, cap, cur, rfl, hg, hu.block_some hh hn, rest⟩

theorem rc_inc (id o fid : Int) (rem : Bool) (l : List UInt8) : 0 ≤ (rcR id o fid rem l).2.2.2 ∧ (rcR id o fid rem l).2.2.2 ≤ 1 := by
  unfold rcR; (repeat' split) <;> simp

set_option maxRecDepth 100000 in
set_option maxHeartbeats 1000000 in
theorem plays_no (u : Nat) (hu : u < 4294967296) (o : Int) (a : Option Addr) (n cap : Nat) (w : World) (hn : (n : Int) ≤ 9223372036854775807) (h : ¬ chE u o = 0) :
    Calls Try.prog 3 #[.int .u32 (u : Int), .int .i64 o, .slice a n cap] w fun e w' => e = .returned (.bool true) ∧ Below w.heap.size w w' := by
  have H := Lib.hid (And.intro (fun w => pnew_no u hu o w h) (And.intro (rnew_any u hu o) (And.intro (check_any u hu o) (rcheck_any u hu o))))
  generalize chE u o = c at *
  have hc : (c == 0) = false := by rw [beq_eq_false_iff_ne]; exact h
  have hc2 : (c != 0) = true := by rw [bne_iff_ne]; exact h
  clear h
  go_enter Try.func3, Try.ntmps3
  go_wp2_with fail
  refine (H.out.1 _).mono ?_
  rintro e w1 ⟨rfl, hb1⟩
  have HB1 := Lib.hid hb1
  clear hb1
  go_wp2_with fail
  refine (H.out.2.1 _).mono ?_
  rintro e w2 ⟨g, rfl, hg, hG, hb2⟩
  have HB2 := Lib.hid (bstep (B := w.heap.size) (w := w) hb2 HB1.out (Nat.le_refl _))
  clear hb2 hG
  go_wp2_with fail
  refine (H.out.2.2.1 _).mono ?_
  rintro e w3 ⟨rfl, hb3⟩
  have HB3 := Lib.hid (bstep (B := w.heap.size) (w := w) hb3 HB2.out (Nat.le_refl _))
  clear hb3
  go_wp2_with fail
  refine (H.out.2.2.2 _).mono ?_
  rintro e w4 ⟨rfl, hb4⟩
  have HB4 := Lib.hid (bstep (B := w.heap.size) (w := w) hb4 HB3.out (Nat.le_refl _))
  clear hb4
  go_wp2_with fail
  refine wp_loop_rounds 1 ?_
  rw [rounds_succ]
  by_cases hn0 : 0 < n
  · have d0 : (0 : Int) < (n : Int) := by omega
    go_wp2_with fail
    refine (known28 _).mono ?_
    rintro e w5 ⟨rfl, hb5⟩
    go_wp2_with fail
    go_ret
    exact ⟨rfl, bstep (B := w.heap.size) (w := w) hb5 HB4.out (Nat.le_refl _)⟩
  · obtain rfl : n = 0 := by omega
    go_wp2_with fail
    refine (known28 _).mono ?_
    rintro e w5 ⟨rfl, hb5⟩
    go_wp2_with fail
    go_ret
    exact ⟨rfl, bstep (B := w.heap.size) (w := w) hb5 HB4.out (Nat.le_refl _)⟩

/-- Behind i frames. -/
def PlI (w : World) (b c : Nat) (id o : Int) (i : Nat) (wr : World) : Prop := ∃ s : Int, 0 ≤ s ∧ s ≤ i ∧ wr.heap[b]? = some (.cells #[.int .i64 id, .int .i64 o, .int .i64 s] 46 (0, 0)) ∧
  wr.heap[c]? = some (.cells #[.int .i64 id, .int .i64 o, .int .i64 s] 41 (0, 0)) ∧ Below w.heap.size w wr

set_option maxRecDepth 100000 in
set_option maxHeartbeats 4000000 in
theorem plays_ok (u : Nat) (hu : u < 4294967296) (o : Int) (a : Option Addr) (n cap : Nat) (w : World) (hn : (n : Int) ≤ 9223372036854775807) (hF : Frames w a n) (h : chE u o = 0) :
    Calls Try.prog 3 #[.int .u32 (u : Int), .int .i64 o, .slice a n cap] w fun e w' => e = .returned (.bool true) ∧ Below w.heap.size w w' := by
  have hok := ch_ok h
  have H := Lib.hid (And.intro (fun w => pnew_ok u hu o w h) (And.intro (rnew_any u hu o) (And.intro (check_any u hu o) (rcheck_any u hu o))))
  rw [h] at H
  have hid1 : 128 ≤ spId u := hok.2.2.1.1
  have hid2 : spId u ≤ 2047 := hok.2.2.1.2
  have ho := hok.2.2.2
  have ho0 : 0 ≤ o := by omega
  have ho1 : o ≤ 240 := by omega
  generalize spId u = id at *
  have HF := Lib.hid hF
  clear h hok ho hF
  go_enter Try.func3, Try.ntmps3
  go_wp2_with fail
  refine (H.out.1 _).mono ?_
  rintro e w1 ⟨b, rfl, hbw, hP1, hb1⟩
  have HB1 := Lib.hid hb1
  have HP1 := Lib.hid hP1
  clear hb1 hP1
  go_wp2_with fail
  refine (H.out.2.1 _).mono ?_
  rintro e w2 ⟨c, rfl, hcw, hR2, hb2⟩
  have HB2 := Lib.hid (bstep (B := w.heap.size) (w := w) hb2 HB1.out (Nat.le_refl _))
  have HP2 := Lib.hid (bkeep' hb2 HP1.out)
  have HR2 := Lib.hid hR2
  have hcw' : w.heap.size ≤ c := Nat.le_trans HB1.out.size hcw
  clear hb2 hR2 HB1 HP1 hcw
  go_wp2_with fail
  refine (H.out.2.2.1 _).mono ?_
  rintro e w3 ⟨rfl, hb3⟩
  have HB3 := Lib.hid (bstep (B := w.heap.size) (w := w) hb3 HB2.out (Nat.le_refl _))
  have HP3 := Lib.hid (bkeep' hb3 HP2.out)
  have HR3 := Lib.hid (bkeep' hb3 HR2.out)
  clear hb3 HB2 HP2 HR2
  go_wp2_with fail
  refine (H.out.2.2.2 _).mono ?_
  rintro e w4 ⟨rfl, hb4⟩
  have HB4 := Lib.hid (bstep (B := w.heap.size) (w := w) hb4 HB3.out (Nat.le_refl _))
  have HP4 := Lib.hid (bkeep' hb4 HP3.out)
  have HR4 := Lib.hid (bkeep' hb4 HR3.out)
  clear hb4 HB3 HP3 HR3
  go_wp2_with fail
  go_loopw [11] (fun i wr => ∃ k : Nat, k ≤ 100 ∧ i = .int .i64 k ∧ PlI w b c id o k wr) (fun i _ => 100 - (intOf i).toNat)
  case atStart => exact ⟨0, by omega, rfl, 0, by omega, by omega, HP4.out, HR4.out, HB4.out⟩
  case round =>
    obtain ⟨k, hk, rfl, s, hs0, hs1, hP, hR, hB⟩ := hrel
    have HP := Lib.hid hP
    have HR := Lib.hid hR
    have HB := Lib.hid hB
    clear hP hR hB HP4 HR4 HB4
    by_cases hk1 : k < n
    · by_cases hk2 : k < 100
      · obtain ⟨lb, off, rfl, hlb, hfr⟩ : ∃ lb off, a = some ⟨lb, off, none⟩ ∧ lb < w.heap.size ∧ ∀ i, i < n → ∃ f : Fr, FrOk w lb off i f := by
          rcases HF.out with h0 | h0
          · omega
          · exact h0
        obtain ⟨f, hf⟩ := hfr k hk1
        have hfw := hf.below HB.out
        obtain ⟨e0, e1, e2⟩ := hfw.cells
        have hfl := hf.2.2.2
        have HFF := Lib.hid hf
        have d1 : (k : Int) < (n : Int) := by omega
        have d2 : (k : Int) < 100 := by omega
        have hlw : lb < wr.heap.size := Nat.lt_of_lt_of_le hlb HB.out.size
        clear hf hfw hfr
        obtain ⟨fid, rem, l, ad, fc⟩ := f
        simp only at e0 e1 e2 hfl
        by_cases hbig : 100 < l.length
        · have d3 : (100 : Int) < (l.length : Int) := by omega
          generalize l.length = ll at *
          go_wp2_with fail
          refine (known28 _).mono ?_
          rintro e w5 ⟨rfl, hb5⟩
          go_wp2_with fail
          go_ret
          exact ⟨rfl, bstep (B := w.heap.size) (w := w) hb5 HB.out (Nat.le_refl _)⟩
        · have d3 : (l.length : Int) ≤ 100 := by omega
          have hwl := HB.out.size
          go_wp2_with fail
          have b0 := HB.out
          have HBy := Lib.hid HFF.out.2.1
          have HN := Lib.hid HFF.out.2.2.1
          have tB : Below w.heap.size w (wr.alloc (.cells #[.int .i64 fid, .bool rem, .slice ad l.length fc] 34)) := by go_grown
          refine (lent_any l ad fc _ (by omega) (HBy.out.below tB) HN.out).mono ?_
          rintro e w5 ⟨g, cap', rfl, hg, hown, hb5⟩
          have HB5 := Lib.hid (bstep (B := w.heap.size) (w := w) hb5 tB (Nat.le_refl _))
          have HP5 := Lib.hid (bkeep' hb5 (akeep _ HP.out))
          have HR5 := Lib.hid (bkeep' hb5 (akeep _ HR.out))
          have HO5 := Lib.hid (bkeep' hb5 (heap_alloc_new wr _))
          have s5 := hb5.size
          simp only [World.size_alloc] at s5 hg hown
          have hbl := lt_of_block HP.out
          have hcl := lt_of_block HR.out
          have HW5 := Lib.hid hown
          clear hb5 tB hown HP HR HB b0 e0 e1 e2
          obtain ⟨o0, o1, o2⟩ := cells3' HO5.out
          have fo := free_of HO5.out 2
          have k5 : wr.heap.size < w5.heap.size := by omega
          go_wp2_with fail
          have hw6 : (w5.setCell ⟨wr.heap.size, 2, none⟩ (.slice (some ⟨g, 0, none⟩) l.length cap')).ownsRow (wr.heap.size + 1) 5 1 (.slice (some ⟨g, 0, none⟩) (l.length + 1) cap') (l.length + 1) (bv (l ++ [77])) := ownsRow_setCell_below HW5.out (by simp) _
          have tB : Below w.heap.size w (w5.setCell ⟨wr.heap.size, 2, none⟩ (.slice (some ⟨g, 0, none⟩) l.length cap')) := HB5.out.setCell (by show w.heap.size ≤ wr.heap.size; omega) _
          refine (recv_any b id o s fid rem l (some ⟨g, 0, none⟩) cap' _ (skeep _ HP5.out (by simp; omega)) (by omega) ho0 hs0 (by omega) (by omega) (bytes_of_own hw6 l ⟨[77], rfl⟩)).mono ?_
          rintro e w6 ⟨rfl, hP6, hu6⟩
          have HB6 := Lib.hid (tB.trans (hu6.toBelow (B := w.heap.size) (by simp; omega) (fun i hi (e : i = b) => by omega)))
          have HP6 := Lib.hid hP6
          have hbc : b ≠ c := fun e => by have h1 := HP5.out; rw [e, HR5.out] at h1; cases h1
          have HR6 := Lib.hid (hu6.block_some (skeep (a := ⟨wr.heap.size, 2, none⟩) _ HR5.out (by simp; omega)) (fun (e : c = b) => hbc e.symm))
          have HO6 := Lib.hid (hu6.block_some (hset HO5.out 2 (.slice (some ⟨g, 0, none⟩) l.length cap')) (by show ¬ wr.heap.size = b; omega))
          have HW6 := Lib.hid (own_updS hw6 hu6 (by show ¬ g = b; omega))
          have s6 := hu6.size
          simp only [World.size_setCell] at s6
          clear hw6 tB hP6 hu6 HP5 HR5 HO5 HW5 HB5 o0 o1 o2 fo
          obtain ⟨e0, e1, e2⟩ := (HFF.out.below HB6.out).cells
          simp only at e0 e1 e2
          have k6 : lb < w6.heap.size := by omega
          go_wp2_with fail
          refine (rrecv_any c id o s fid rem l ad fc _ HR6.out ho0 hs0 (by omega) (by omega) (HBy.out.below HB6.out)).mono ?_
          rintro e w7 ⟨rfl, hR7, hu7⟩
          have HB7 := Lib.hid (HB6.out.trans (hu7.toBelow (B := w.heap.size) (by omega) (fun i hi (e : i = c) => by omega)))
          have HR7 := Lib.hid hR7
          have HP7 := Lib.hid (hu7.block_some HP6.out hbc)
          have HO7 := Lib.hid (hu7.block_some HO6.out (by show ¬ wr.heap.size = c; omega))
          have HW7 := Lib.hid (own_updS HW6.out hu7 (by show ¬ g = c; omega))
          have s7 := hu7.size
          clear hR7 hu7 HB6 HP6 HR6 HO6 HW6 e0 e1 e2
          obtain ⟨e0, e1, e2⟩ := (HFF.out.below HB7.out).cells
          simp only at e0 e1 e2
          have k7 : lb < w7.heap.size := by omega
          have k8 : c < w7.heap.size := by omega
          have k9 : wr.heap.size < w7.heap.size := by omega
          have hin := rc_inc id o fid rem l
          have HIN := Lib.hid hin
          generalize rcR id o fid rem l = r at *
          obtain ⟨r1, r2, r3, r4⟩ := r
          simp only at hin
          obtain ⟨q0, q1, q2⟩ := cells3' HR7.out
          obtain ⟨o0, o1, o2⟩ := cells3' HO7.out
          clear HIN
          have KQ := Lib.hid (fun nq => kept_q l ad fc g cap' (wr.heap.size + 1) (w7.drewN nq) (by omega) (HBy.out.below (below_dn HB7.out nq)) HN.out (own_below HW7.out (below_dn (Below.refl _ _) nq)))
          go_wp2_with fail
          go_quiet ((first | (go_at_call 19; exact Calls.quiet_of_same (seen_q b _ _ _ _ HP7.out)) | (go_at_call 20; exact Calls.quiet_of_same (pid_q b _ _ _ _ HP7.out)) | (go_at_call 21; exact Calls.quiet_of_same (KQ.out _))))
          go_wp2_with fail
          go_roundw
          case rel => exact ⟨k + 1, by omega, by go_num, s + r4, by omega, by omega, HP7.out, HR7.out, below_dn HB7.out _⟩
          case measure => simp [intOf]; omega
      · obtain rfl : k = 100 := by omega
        have d1 : (100 : Int) < (n : Int) := by omega
        go_wp2_with fail
        refine (known28 _).mono ?_
        rintro e w5 ⟨rfl, hb5⟩
        go_wp2_with fail
        go_ret
        exact ⟨rfl, bstep (B := w.heap.size) (w := w) hb5 HB.out (Nat.le_refl _)⟩
    · have d1 : (n : Int) ≤ (k : Int) := by omega
      go_wp2_with fail
      refine (known28 _).mono ?_
      rintro e w5 ⟨rfl, hb5⟩
      go_wp2_with fail
      go_ret
      exact ⟨rfl, bstep (B := w.heap.size) (w := w) hb5 HB.out (Nat.le_refl _)⟩

section
open Go.ChangeShapes Go.WideShapes Go.ChangeAt
variable {H : Type} {enc : TypeId × Value → H} {w : World} {base : Nat} {d : DataW H} {ps : List MemPlace} {v : Value}
set_option maxRecDepth 100000 in
theorem open_frames {r : Reach} {b0 : Nat} (hv : Value.okWide Try.prog w r b0 23 v) (h : DataW.Trod enc Try.prog w base (fun _ => true) true 23 v d ps) :
    ∃ a n cap, v = .slice a n cap ∧ (n : Int) ≤ 9223372036854775807 ∧ Frames w a n := by
  obtain ⟨a, n, cap, rfl⟩ := okWide_slice Try.underlying23 hv
  obtain ⟨fuel, hf⟩ := h
  have hc3 : Try.prog.cellsOf 34 = 3 := by kernel_rfl
  obtain ⟨h1, h2, h3, h4⟩ := open_rows Try.underlying23 (by rw [hc3]; omega) (by simpa [Value.cells] using hf)
  refine ⟨a, n, cap, rfl, by unfold maxLen at h3; omega, ?_⟩
  rcases h4 with h4 | ⟨b, off, rfl, hb, hi⟩
  · exact .inl h4
  · refine .inr ⟨b, off, rfl, hb, fun i hin => ?_⟩
    obtain ⟨cs, k, y, he, ht⟩ := hi i hin
    obtain ⟨v0, v1, v2, y0, y1, y2, m, rfl, g0, g1, g2⟩ := trod_three Try.underlying34 (by kernel_rfl) hc3 ht
    obtain ⟨x, hx, _, _⟩ := DataW.trod_int Try.underlying3 g0
    obtain ⟨z, hz, _⟩ := DataW.trod_bool Try.underlying4 g1
    obtain ⟨a2, len, cap2, zs, hs, hr⟩ := open_bytes g2
    obtain ⟨l, rfl, hB, hn, hm⟩ := hr.bytes
    cases hx; cases hz; cases hs
    rw [hc3] at he
    exact ⟨⟨x, z, l, a2, cap2⟩, he, hB, hn, by unfold maxLen at hm; show (l.length : Int) ≤ _; omega⟩

theorem plays_frame (a0 a1 : Int) (v2 : Value) (w : World) {d2 : DataW H} {p2 : List MemPlace} (w0 : (Lit.int .u32 a0).wf = true) (w1 : (Lit.int .i64 a1).wf = true)
    (ok2 : Value.okWide Try.prog w .any base 23 v2) (k2 : DataW.Trod enc Try.prog w 0 (fun _ => true) true 23 v2 d2 p2) :
    Calls Try.prog 3 #[.int .u32 a0, .int .i64 a1, v2] w fun e w' => e = .returned (.bool true) ∧ Below w.heap.size w w' := by
  obtain ⟨s, rfl, hs⟩ := u32_nat w0
  obtain ⟨a, n, cap, rfl, hn, hF⟩ := open_frames ok2 k2
  by_cases h : chE s a1 = 0
  · exact plays_ok s hs a1 a n cap w hn hF h
  · exact plays_no s hs a1 a n cap w hn h

theorem pnil_frame (v0 : Value) (w : World) {d0 : DataW H} {p0 : List MemPlace} (ok0 : Value.okWide Try.prog w .any base 34 v0) (k0 : DataW.Trod enc Try.prog w 0 (fun _ => true) true 34 v0 d0 p0) :
    Calls Try.prog 5 #[v0] w fun e w' => e = .returned (.bool true) ∧ Below w.heap.size w w' := by
  obtain ⟨id, rem, a, len, cap, zs, rfl, hr⟩ := open_frame ok0 k0
  exact pnil_walk id rem a len cap w
end
end Go.Proofs.Ytagkbacgdkbbeaa
