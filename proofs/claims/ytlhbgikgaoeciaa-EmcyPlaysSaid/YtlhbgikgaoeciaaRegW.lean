/-
  LAW EmcyRegister: the walk.
-/
import Derived.Test.YtlhbgikgaoeciaaRegE
set_option linter.unusedSimpArgs false
set_option linter.unusedVariables false
namespace Go.Proofs.Ytlhbgikgaoeciaa
open Go.RowKit
attribute [local go_sem] Oper.semAt_some

def EOps (w : World) (a : Option Addr) (n : Nat) : Prop := n = 0 ∨ ∃ b off, a = some ⟨b, off, none⟩ ∧ b < w.heap.size ∧ ∀ i, i < n → ∃ x y z : Int, ElemAt w b off 3 i [.int .i64 x, .int .i64 y, .int .i64 z]
theorem elem3 {w : World} {b off i : Nat} {x y z : Value} (h : ElemAt w b off 3 i [x, y, z]) :
    w.cell? ⟨b, off + i * 3, none⟩ = some x ∧ w.cell? ⟨b, off + i * 3 + 1, none⟩ = some y ∧ w.cell? ⟨b, off + i * 3 + 2, none⟩ = some z := ⟨h.2 0 _ rfl, h.2 1 _ rfl, h.2 2 _ rfl⟩

set_option maxRecDepth 100000 in
set_option maxHeartbeats 8000000 in
theorem ereg_walk (a : Option Addr) (len cap : Nat) (c i : Int) (w : World) (hl : (len : Int) ≤ 9223372036854775807) (hO : EOps w a len) :
    Calls Try.prog 3 #[.slice a len cap, .int .i64 c, .int .i64 i] w fun e w' => e = .returned (.bool true) ∧ Below w.heap.size w w' := by
  have HO := Lib.hid hO
  clear hO
  go_enter Try.func3, Try.ntmps3
  go_wp2_with fail
  refine (new_ok 1 _ (by omega)).mono ?_
  rintro e w1 ⟨B, rfl, hB1, hE1, hb1⟩
  have HI : Hid (RegI w B w1) := ⟨_, _, [], [], hE1, (fun p hp => by cases hp), by simp, by simp, hb1, hB1, (fun j hj => by cases hj)⟩
  clear hE1 hb1
  go_wp2_with fail
  go_loopg [9] 100 (fun gg i wr => ∃ k : Nat, k ≤ 100 ∧ gg = 100 - k ∧ i = .int .i64 k ∧ RegI w B wr)
  case atStart => exact ⟨0, by omega, by omega, rfl, HI.out⟩
  case round =>
    obtain ⟨k, hk, hgk, rfl, hI⟩ := hrel
    have HG := Lib.hid hgk
    clear HI
    have HI := Lib.hid hI
    have hwr : w.heap.size ≤ wr.heap.size := by obtain ⟨_, _, _, _, h⟩ := hI; exact h.2.2.2.2.1.size
    have hbel : Below w.heap.size w wr := by obtain ⟨_, _, _, _, h⟩ := hI; exact h.2.2.2.2.1
    have HBEL := Lib.hid hbel
    clear hgk hI hbel
    by_cases hk1 : k < len ∧ k < 100
    · obtain ⟨hk1, hk2⟩ := hk1
      have d1 : (k : Int) < (len : Int) := by omega
      have d2 : (k : Int) < 100 := by omega
      obtain ⟨sb, off, rfl, hsb, hops⟩ : ∃ sb off, a = some ⟨sb, off, none⟩ ∧ sb < w.heap.size ∧ ∀ i, i < len → ∃ x y z : Int, ElemAt w sb off 3 i [.int .i64 x, .int .i64 y, .int .i64 z] := by
        rcases HO.out with h0 | h0
        · omega
        · exact h0
      obtain ⟨x, y, z, he⟩ := hops k hk1
      obtain ⟨e0, e1, e2⟩ := elem3 (he.below HBEL.out)
      obtain ⟨f0, f1, f2⟩ := elem3 he
      have HF := Lib.hid (And.intro f1 f2)
      have hsr : sb < wr.heap.size := by omega
      have HId : Hid (RegI w B wr.drew) := by
        obtain ⟨av, hv, fs, hs, h⟩ := HI.out
        exact ⟨av, hv, fs, hs, h.below (w' := wr.drew) ⟨rfl, rfl, rfl, Nat.le_refl _, fun _ _ => rfl⟩⟩
      have end_ : ∀ w5, RegI w B w5 → w5.cell? ⟨sb, off + k * 3 + 1, none⟩ = some (.int .i64 y) ∧ w5.cell? ⟨sb, off + k * 3 + 2, none⟩ = some (.int .i64 z) := by
        rintro w5 ⟨av, hv, fs, hs, h⟩
        exact ⟨(h.2.2.2.2.1.cell (by exact hsb)).trans HF.out.1, (h.2.2.2.2.1.cell (by exact hsb)).trans HF.out.2⟩
      have HEND := Lib.hid end_
      clear hops he f0 f1 f2 end_
      by_cases hx : x = 0
      · subst hx
        go_wp2_with fail
        go_region_held3 (fun w' => w'.cell? ⟨sb, off + k * 3 + 1, none⟩ = some (.int .i64 y) ∧ w'.cell? ⟨sb, off + k * 3 + 2, none⟩ = some (.int .i64 z))
          (first
            | go_keep
            | (go_split_ands; exact HEND.out w5 hI5))
          (first
            | (go_at_call 8; refine (raise_regI HId.out y z).mono ?_; rintro e w5 ⟨v5, rfl, hI5⟩))
        obtain ⟨av, hv, fs, hs, hS⟩ := hI5
        obtain ⟨bz, hz1, hz2⟩ : ∃ bz : Bool, (regC fs == 0) = bz ∧ ((fs.length : Int) == 0) = bz := by
          refine ⟨_, rfl, ?_⟩
          have h0 := regC_zero hS.2.1
          by_cases hf : fs = []
          · subst hf; rfl
          · have h1 : ¬ regC fs = 0 := fun e => hf (h0.1 e)
            have h2 : fs.length ≠ 0 := fun e => hf (List.length_eq_zero_iff.1 e)
            rw [beq_eq_false_iff_ne.2 (show (fs.length : Int) ≠ 0 by omega), beq_eq_false_iff_ne.2 h1]
        have l64 : decide ((64 : Int) < (fs.length : Int)) = false := decide_eq_false (by have := hS.2.2.1; omega)
        have l4 : decide ((4 : Int) < (hs.length : Int)) = false := decide_eq_false (by have := hS.2.2.2.1; omega)
        have HS := Lib.hid hS
        clear hS
        go_wp2_with fail
        refine (register_any B 129 av hv fs hs _ HS.out.1).mono ?_
        rintro e w6 ⟨rfl, hb6⟩
        have HS6 := Lib.hid (HS.out.below hb6)
        clear hb6
        generalize regC fs = rg at *
        go_wp2_with fail
        refine (active_any B 129 av hv fs hs _ HS6.out.1).mono ?_
        rintro e w7 ⟨rfl, rfl⟩
        go_wp2_with fail
        refine (active_any B 129 av hv fs hs _ HS6.out.1).mono ?_
        rintro e w7 ⟨rfl, rfl⟩
        go_wp2_with fail
        refine (history_any B 129 av hv fs hs _ HS6.out.1 (by have := HS6.out.2.2.2.1; omega)).mono ?_
        rintro e w8 ⟨v8, rfl, hown, hb8⟩
        obtain ⟨ha8, hc8, rfl⟩ : ∃ ha hc, v8 = .slice ha hs.length hc := by
          rcases hown.2 with ⟨rfl, h0⟩ | ⟨g, cap', cur, rfl, _⟩
          · rw [h0]; exact ⟨none, 0, rfl⟩
          · exact ⟨_, cap', rfl⟩
        have HS8 := Lib.hid (HS6.out.below hb8)
        clear hown hb8
        go_wp2_with fail
        go_roundg (100 - (k + 1))
        case measure => have := HG.out; omega
        case rel => exact ⟨k + 1, by omega, rfl, by go_num, _, _, _, _, HS8.out⟩
      · have hxb : (x == 0) = false := by rw [beq_eq_false_iff_ne]; exact hx
        clear hx
        go_wp2_with fail
        go_region_held3 (fun w' => w'.cell? ⟨sb, off + k * 3 + 1, none⟩ = some (.int .i64 y) ∧ w'.cell? ⟨sb, off + k * 3 + 2, none⟩ = some (.int .i64 z))
          (first
            | go_keep
            | (go_split_ands; exact HEND.out w5 hI5))
          (first
            | (go_at_call 9; refine (clear_regI HId.out y z).mono ?_; rintro e w5 ⟨v5, rfl, hI5⟩))
        obtain ⟨av, hv, fs, hs, hS⟩ := hI5
        obtain ⟨bz, hz1, hz2⟩ : ∃ bz : Bool, (regC fs == 0) = bz ∧ ((fs.length : Int) == 0) = bz := by
          refine ⟨_, rfl, ?_⟩
          have h0 := regC_zero hS.2.1
          by_cases hf : fs = []
          · subst hf; rfl
          · have h1 : ¬ regC fs = 0 := fun e => hf (h0.1 e)
            have h2 : fs.length ≠ 0 := fun e => hf (List.length_eq_zero_iff.1 e)
            rw [beq_eq_false_iff_ne.2 (show (fs.length : Int) ≠ 0 by omega), beq_eq_false_iff_ne.2 h1]
        have l64 : decide ((64 : Int) < (fs.length : Int)) = false := decide_eq_false (by have := hS.2.2.1; omega)
        have l4 : decide ((4 : Int) < (hs.length : Int)) = false := decide_eq_false (by have := hS.2.2.2.1; omega)
        have HS := Lib.hid hS
        clear hS
        go_wp2_with fail
        refine (register_any B 129 av hv fs hs _ HS.out.1).mono ?_
        rintro e w6 ⟨rfl, hb6⟩
        have HS6 := Lib.hid (HS.out.below hb6)
        clear hb6
        generalize regC fs = rg at *
        go_wp2_with fail
        refine (active_any B 129 av hv fs hs _ HS6.out.1).mono ?_
        rintro e w7 ⟨rfl, rfl⟩
        go_wp2_with fail
        refine (active_any B 129 av hv fs hs _ HS6.out.1).mono ?_
        rintro e w7 ⟨rfl, rfl⟩
        go_wp2_with fail
        refine (history_any B 129 av hv fs hs _ HS6.out.1 (by have := HS6.out.2.2.2.1; omega)).mono ?_
        rintro e w8 ⟨v8, rfl, hown, hb8⟩
        obtain ⟨ha8, hc8, rfl⟩ : ∃ ha hc, v8 = .slice ha hs.length hc := by
          rcases hown.2 with ⟨rfl, h0⟩ | ⟨g, cap', cur, rfl, _⟩
          · rw [h0]; exact ⟨none, 0, rfl⟩
          · exact ⟨_, cap', rfl⟩
        have HS8 := Lib.hid (HS6.out.below hb8)
        clear hown hb8
        go_wp2_with fail
        go_roundg (100 - (k + 1))
        case measure => have := HG.out; omega
        case rel => exact ⟨k + 1, by omega, rfl, by go_num, _, _, _, _, HS8.out⟩
    · have key : ((k : Int) < (len : Int) ∧ ¬ (k : Int) < 100) ∨ ¬ (k : Int) < (len : Int) := by omega
      obtain ⟨av, hv, fs, hs, hS⟩ := HI.out
      have HS := Lib.hid hS
      have RK := Lib.hid (raise_reg hS c i)
      clear hS hk1
      have key2 : ∃ b1 b2 : Bool, decide ((k : Int) < (len : Int)) = b1 ∧ decide ((k : Int) < 100) = b2 := ⟨_, _, rfl, rfl⟩
      rcases key with ⟨d1, d2⟩ | d1
      all_goals
        go_wp2_with fail
        refine (register_any B 129 av hv fs hs _ HS.out.1).mono ?_
        rintro e w2 ⟨rfl, hb2⟩
        have HS2 := Lib.hid (HS.out.below hb2)
        clear hb2
        go_wp2_with fail
        refine (active_any B 129 av hv fs hs _ HS2.out.1).mono ?_
        rintro e w7 ⟨rfl, rfl⟩
        go_wp2_with fail
        by_cases hok : rsOk fs c i
        · refine (raise_reg HS2.out c i hok).mono ?_
          rintro e w3 ⟨g3, av3, hv3, hs3, rfl, hS3⟩
          have HS3 := Lib.hid hS3
          have HOK := Lib.hid hok
          clear hS3 hok
          go_wp2_with fail
          refine (register_any B 129 av3 hv3 _ hs3 _ HS3.out.1).mono ?_
          rintro e w4 ⟨rfl, hb4⟩
          have HS4 := Lib.hid (HS3.out.below hb4)
          clear hb4
          go_wp2_with fail
          refine (clear_reg HS4.out c i (by simp)).mono ?_
          rintro e w5 ⟨g5, av5, rfl, hS5⟩
          rw [erase_last HOK.out.2.2.1] at hS5
          have HS5 := Lib.hid hS5
          have hmore := regC_more fs (c, i)
          clear hS5
          generalize hr1 : regC (fs ++ [(c, i)]) = r1 at *
          have HR1 := Lib.hid hr1
          clear hr1
          go_wp2_with fail
          refine (register_any B 129 av5 hv3 fs hs3 _ HS5.out.1).mono ?_
          rintro e w6 ⟨rfl, hb6⟩
          have HS6 := Lib.hid (HS5.out.below hb6)
          clear hb6
          go_wp2_with fail
          refine (active_any B 129 av5 hv3 fs hs3 _ HS6.out.1).mono ?_
          rintro e w7 ⟨rfl, rfl⟩
          go_wp2_with fail
          refine (clear_reg_no HS6.out c i HOK.out.2.2.1).mono ?_
          rintro e w8 ⟨rfl, hS8⟩
          have HS8 := Lib.hid hS8
          clear hS8
          go_wp2_with fail
          refine (known27 _).mono ?_
          rintro e w9 ⟨rfl, hb9⟩
          have HB9 := Lib.hid (HS8.out.2.2.2.2.1.trans (hb9.mono HS8.out.2.2.2.2.1.size))
          clear hb9
          go_wp2_with fail
          go_ret
          exact ⟨rfl, HB9.out⟩
        · refine (raise_reg_no HS2.out c i hok).mono ?_
          rintro e w3 ⟨rfl, hS3⟩
          have HS3 := Lib.hid hS3
          clear hS3 hok
          go_wp2_with fail
          refine (register_any B 129 av hv fs hs _ HS3.out.1).mono ?_
          rintro e w4 ⟨rfl, hb4⟩
          have HS4 := Lib.hid (HS3.out.below hb4)
          clear hb4
          go_wp2_with fail
          refine (active_any B 129 av hv fs hs _ HS4.out.1).mono ?_
          rintro e w7 ⟨rfl, rfl⟩
          go_wp2_with fail
          refine (known27 _).mono ?_
          rintro e w9 ⟨rfl, hb9⟩
          have HB9 := Lib.hid (HS4.out.2.2.2.2.1.trans (hb9.mono HS4.out.2.2.2.2.1.size))
          clear hb9
          go_wp2_with fail
          go_ret
          exact ⟨rfl, HB9.out⟩

section
open Go.ChangeShapes Go.WideShapes Go.ChangeAt Go.Deep
variable {H : Type} {enc : TypeId × Value → H} {w : World} {base : Nat} {d : DataW H} {ps : List MemPlace} {v : Value}
set_option maxRecDepth 100000 in
theorem open_eops {r : Reach} {b0 : Nat} (hv : Value.okWide Try.prog w r b0 22 v) (h : DataW.Trod enc Try.prog w base (fun _ => true) true 22 v d ps) :
    ∃ a n cap, v = .slice a n cap ∧ (n : Int) ≤ 9223372036854775807 ∧ EOps w a n := by
  obtain ⟨a, n, cap, rfl⟩ := okWide_slice Try.underlying22 hv
  obtain ⟨fuel, hf⟩ := h
  have hc3 : Try.prog.cellsOf 28 = 3 := by kernel_rfl
  obtain ⟨h1, h2, h3, h4⟩ := open_rows Try.underlying22 (by rw [hc3]; omega) (by simpa [Value.cells] using hf)
  refine ⟨a, n, cap, rfl, by unfold maxLen at h3; omega, ?_⟩
  rcases h4 with h4 | ⟨b, off, rfl, hb, hi⟩
  · exact .inl h4
  · refine .inr ⟨b, off, rfl, hb, fun i hin => ?_⟩
    obtain ⟨cs, k, y, he, ht⟩ := hi i hin
    obtain ⟨v0, v1, v2, y0, y1, y2, m, rfl, g0, g1, g2⟩ := trod_three Try.underlying28 (by kernel_rfl) hc3 ht
    obtain ⟨x, hx, _, _⟩ := DataW.trod_int Try.underlying3 g0
    obtain ⟨z, hz, _, _⟩ := DataW.trod_int Try.underlying3 g1
    obtain ⟨s, hs, _, _⟩ := DataW.trod_int Try.underlying3 g2
    cases hx; cases hz; cases hs
    rw [hc3] at he
    exact ⟨x, z, s, he⟩

set_option maxRecDepth 100000 in
theorem ereg_frame (v0 : Value) (a1 a2 : Int) (w : World) {d0 : DataW H} {p0 : List MemPlace} (ok0 : Value.okWide Try.prog w .any base 22 v0) (k0 : DataW.Trod enc Try.prog w 0 (fun _ => true) true 22 v0 d0 p0) (w1 : (Lit.int .i64 a1).wf = true) (w2 : (Lit.int .i64 a2).wf = true) :
    Calls Try.prog 3 #[v0, .int .i64 a1, .int .i64 a2] w fun e w' => e = .returned (.bool true) ∧ Below w.heap.size w w' := by
  obtain ⟨a, n, cap, rfl, hn, hF⟩ := open_eops ok0 k0
  exact ereg_walk a n cap a1 a2 w hn hF
end
end Go.Proofs.Ytlhbgikgaoeciaa
