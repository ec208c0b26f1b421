/-
  CONTRACT of heart's wrong: what is wrong of words.
-/
import Derived.Test.YtpnnmcicpjebmaaHeart1
import Derived.Laws.NewBlocks
import Derived.Laws.Tables
import Derived.Deep.WholeRow
set_option linter.unusedSimpArgs false
set_option linter.unusedVariables false
namespace Go.Proofs.Ytpnnmcicpjebmaa
open Go.RowKit
attribute [local go_sem] Oper.semAt_some

/-- A slice of words. -/
def U32s (w : World) (a : Option Addr) (us : List Nat) : Prop :=
  (∀ u ∈ us, u < 4294967296) ∧ (us = [] ∨ ∃ b off, a = some ⟨b, off, none⟩ ∧ ∀ i (h : i < us.length), w.cell? ⟨b, off + i, none⟩ = some (.int .u32 (us[i] : Int)))
theorem U32s.below {w w' : World} {a : Option Addr} {us : List Nat} (h : U32s w a us) (hb : Below w.heap.size w w') : U32s w' a us := by
  refine ⟨h.1, ?_⟩
  rcases h.2 with h | ⟨b, off, rfl, hc⟩
  · exact .inl h
  · exact .inr ⟨b, off, rfl, fun i hi => (hb.cell (World.block_lt_of_cell? w _ (hc i hi))).trans (hc i hi)⟩
theorem U32s.at {w : World} {a : Option Addr} {us : List Nat} (h : U32s w a us) {k : Nat} (hk : k < us.length) : ∃ b off, a = some ⟨b, off, none⟩ ∧ b < w.heap.size ∧ w.cell? ⟨b, off + k, none⟩ = some (.int .u32 (us[k] : Int)) ∧ us[k] < 4294967296 := by
  rcases h.2 with h0 | ⟨b, off, rfl, hc⟩
  · subst h0; simp at hk
  · exact ⟨b, off, rfl, World.block_lt_of_cell? w _ (hc k hk), hc k hk, h.1 _ (List.getElem_mem hk)⟩

def wrR : List Nat → List Nat → Int → Int
  | [], _, e => e
  | u :: us, met, e => if 8388608 ≤ u then 4 else if waOk u then wrR us (u / 65536 :: met) (if u / 65536 ∈ met then 13 else e) else wrR us met e
def wrE (us : List Nat) : Int := if 4 < us.length then 3 else wrR us [] 0

def z128 : Array Value := Array.replicate 128 (.bool false)
theorem zero101 (w : World) : (zeroValue 101).run Try.prog w = .ok (.agg z128) w := by kernel_rfl

theorem z128_size : z128.size = 128 := by unfold z128; simp
theorem z128_info : (Try.prog.info? 101).map (·.size) = some z128.size := by rw [z128_size]; kernel_rfl
theorem z128_one : z128.all (·.oneCell') = true := by kernel_rfl

theorem wpList_store_new {P : Program} {ops : Array Oper} {rest : List Oper} {op : Oper} {a : Act} {w : World} {Q : Exit → Act → World → Prop} (hgd : op.guard = none) (ty : TypeId) (x y : Operand) (ho : op.op = .store ty x y)
    (c c' : Array Value) (hx : a.eval x = .pointer (some ⟨w.heap.size, 0, none⟩)) (hy : a.eval y = .agg c') (hi : (P.info? ty).map (·.size) = some c'.size) (hs : c.size = c'.size) (h1 : c'.all (·.oneCell') = true)
    (h : wpList P ops Q rest (a.put op.dst undef) (w.alloc (.cells c' ty))) : wpList P ops Q (op :: rest) a (w.alloc (.cells c ty)) :=
  wpList_plain hgd fun _ hK => by
    unfold Oper.wp execOp
    simp only [ho, hx, hy, Instr.storeAt, Instr.sureAddr, Sem.run_bind, Sem.run_pure, Result.andThen_ok, run_storeVar_new w ty c c' hi hs h1]
    exact hK _ _ h

/-- The marks of the nodes that were met. -/
def Marks (w : World) (g : Nat) (met : List Nat) : Prop := ∃ cs : Array Value, w.heap[g]? = some (.cells cs 101 (0, 0)) ∧ cs.size = 128 ∧ ∀ i, i < 128 → cs[i]? = some (.bool (decide (i ∈ met)))
theorem Marks.cell {w : World} {g : Nat} {met : List Nat} (h : Marks w g met) (i : Nat) (hi : i < 128) : w.cell? ⟨g, i, none⟩ = some (.bool (decide (i ∈ met))) ∧ w.frozen? ⟨g, i, none⟩ = false := by
  obtain ⟨cs, hh, hs, hc⟩ := h
  simp [World.cell?, World.frozen?, hh, hc i hi]
theorem Marks.lt {w : World} {g : Nat} {met : List Nat} (h : Marks w g met) : g < w.heap.size := by obtain ⟨cs, hh, _⟩ := h; exact lt_of_block hh
theorem Marks.set {w : World} {g : Nat} {met : List Nat} (h : Marks w g met) (k : Nat) (hk : k < 128) : Marks (w.setCell ⟨g, k, none⟩ (.bool true)) g (k :: met) := by
  obtain ⟨cs, hh, hs, hc⟩ := h
  refine ⟨cs.setIfInBounds k (.bool true), hset hh k _, by simpa using hs, fun i hi => ?_⟩
  by_cases e : i = k
  · subst e; simp [Array.getElem?_setIfInBounds]; omega
  · rw [Array.getElem?_setIfInBounds_ne (by omega), hc i hi]
    simp [e]
theorem marks_new (w : World) (cs : Array Value) (h : cs = Array.replicate 128 (.bool false)) : Marks (w.alloc (.cells cs 101)) w.heap.size [] := by
  subst h
  exact ⟨_, heap_alloc_new w _, by simp, fun i hi => by simp [Array.getElem?_replicate, hi]⟩

set_option maxRecDepth 100000 in
set_option maxHeartbeats 4000000 in
theorem wrong_any (us : List Nat) (a : Option Addr) (cap : Nat) (w : World) (hl : (us.length : Int) ≤ 9223372036854775807) (hU : U32s w a us) :
    Calls Try.prog 47 #[.slice a us.length cap] w fun e w' => e = .returned (.int .i64 (wrE us)) ∧ Below w.heap.size w w' := by
  by_cases hbig : 4 < us.length
  · have h1 : (4 : Int) < (us.length : Int) := by omega
    have h2 : wrE us = 3 := by unfold wrE; rw [if_pos hbig]
    rw [h2]
    clear h2 hU
    generalize us.length = n at *
    go_enter Try.func47, Try.ntmps47
    go_wp2_with fail
    go_ret
    exact ⟨rfl, Below.refl _ _⟩
  · have h1 : (us.length : Int) ≤ 4 := by omega
    have hr : wrE us = wrR us [] 0 := by unfold wrE; rw [if_neg hbig]
    have HR := Lib.hid hr
    have HU := Lib.hid hU
    generalize wrE us = R at *
    clear hr hU hbig
    have hz := zero101
    go_enter Try.func47, Try.ntmps47
    go_wp2_with (refine wpList_store_new (op := ⟨none, .store 101 (.tmp 3) (.tmp 13), _, _, _, _⟩) rfl 101 (.tmp 3) (.tmp 13) rfl _ z128 rfl rfl z128_info rfl z128_one ?_)
    clear hz
    go_loopw [4, 16] (fun e i wr => ∃ k : Nat, k ≤ us.length ∧ i = .int .i64 k ∧ ∃ (met : List Nat) (v : Int), e = .int .i64 v ∧ R = wrR (us.drop k) met v ∧ Marks wr w.heap.size met ∧ Below w.heap.size w wr) (fun _ i _ => us.length - (intOf i).toNat)
    case atStart => exact ⟨0, by omega, rfl, [], 0, rfl, HR.out, marks_new w _ rfl, (Below.refl _ w).alloc (Nat.le_refl _) _⟩
    case round =>
      obtain ⟨k, hk, rfl, met, v, rfl, hR, hM, hB⟩ := hrel
      have HM := Lib.hid hM
      have HB := Lib.hid hB
      have HRk := Lib.hid hR
      have hgl := hM.lt
      clear hR hM hB
      by_cases hk1 : k < us.length
      · have d1 : (k : Int) < (us.length : Int) := by omega
        obtain ⟨b, off, rfl, hbl, hc, hu⟩ := (HU.out.below HB.out).at hk1
        have hd : us.drop k = us[k] :: us.drop (k + 1) := List.drop_eq_getElem_cons hk1
        have HD := Lib.hid hd
        obtain ⟨u, hue⟩ : ∃ u, us[k] = u := ⟨_, rfl⟩
        rw [hue] at hc hu
        have HUE := Lib.hid hue
        have hst : wrR (us.drop k) met v = if 8388608 ≤ u then 4 else if waOk u then wrR (us.drop (k + 1)) (u / 65536 :: met) (if u / 65536 ∈ met then 13 else v) else wrR (us.drop (k + 1)) met v := by
          rw [HD.out, HUE.out]; rfl
        have HST := Lib.hid hst
        have ht := and_top u hu
        clear hd hue hst
        by_cases c1 : 8388608 ≤ u
        · rw [decide_eq_true c1] at ht
          have HF : Hid (R = 4) := by show R = 4; rw [HRk.out, HST.out, if_pos c1]
          clear c1
          go_wp2_with fail
          go_ret
          exact ⟨ret_int HF.out.symm, HB.out⟩
        · rw [decide_eq_false c1] at ht
          have HF : Hid (R = if waOk u then wrR (us.drop (k + 1)) (u / 65536 :: met) (if u / 65536 ∈ met then 13 else v) else wrR (us.drop (k + 1)) met v) := by show R = _; rw [HRk.out, HST.out, if_neg c1]
          go_wp2_with fail
          refine (watch_any u hu _).mono ?_
          rintro e w1 ⟨rfl, rfl⟩
          by_cases c2 : waOk u
          · have e1 : waN u = ((u / 65536 : Nat) : Int) := by unfold waN; rw [if_pos c2]
            rw [decide_eq_true c2, e1]
            have hn : u / 65536 < 128 := by omega
            have HF2 : Hid (R = wrR (us.drop (k + 1)) (u / 65536 :: met) (if u / 65536 ∈ met then 13 else v)) := by show R = _; rw [HF.out, if_pos c2]
            generalize u / 65536 = m at *
            obtain ⟨hmc, hmf⟩ := HM.out.cell m hn
            have HMS := Lib.hid (HM.out.set m hn)
            have hm0 : (m : Int) < 128 := by omega
            clear c1 c2 e1 HF HST
            by_cases c3 : m ∈ met
            · rw [decide_eq_true c3] at hmc
              rw [if_pos c3] at HF2
              clear c3
              go_wp2_with fail
              go_roundw
              case rel => exact ⟨k + 1, by omega, by go_num, _, 13, rfl, HF2.out, HMS.out, HB.out.setCell (Nat.le_refl _) _⟩
              case measure => simp [intOf]; omega
            · rw [decide_eq_false c3] at hmc
              rw [if_neg c3] at HF2
              clear c3
              go_wp2_with fail
              go_roundw
              case rel => exact ⟨k + 1, by omega, by go_num, _, v, rfl, HF2.out, HMS.out, HB.out.setCell (Nat.le_refl _) _⟩
              case measure => simp [intOf]; omega
          · rw [decide_eq_false c2]
            have HF2 : Hid (R = wrR (us.drop (k + 1)) met v) := by show R = _; rw [HF.out, if_neg c2]
            generalize waN u = x at *
            clear c1 c2 HF HST
            go_wp2_with fail
            go_roundw
            case rel => exact ⟨k + 1, by omega, by go_num, _, v, rfl, HF2.out, HM.out, HB.out⟩
            case measure => simp [intOf]; omega
      · obtain rfl : k = us.length := by omega
        have HF : Hid (R = v) := by show R = v; rw [HRk.out, List.drop_of_length_le (Nat.le_refl _)]; rfl
        go_wp2_with fail
        go_ret
        exact ⟨ret_int HF.out.symm, HB.out⟩
end Go.Proofs.Ytpnnmcicpjebmaa
