/-
  The fixed calls of the heart laws.
-/
import Derived.Test.YtpnnmcicpjebmaaRecvH
import Derived.Test.YtpnnmcicpjebmaaKnown25
set_option linter.unusedSimpArgs false
set_option linter.unusedVariables false
namespace Go.Proofs.Ytpnnmcicpjebmaa
open Go.RowKit
attribute [local go_sem] Oper.semAt_some

theorem guard36 : Try.prog.eqGuardType Try.prog.depth 36 = false := by kernel_rfl
theorem fields36 : (Try.prog.fieldsOf 36).toList = [{ name := "Kind", type := 3, offset := 0, embedded := false, tag := "", pkgPath := "", byteOffset := 0 }, { name := "Node", type := 3, offset := 1, embedded := false, tag := "", pkgPath := "", byteOffset := 8 }] := by kernel_rfl
theorem part_int36 (xs : Array Value) (i : Nat) (x : Int) (w : World) (h : xs[i]? = some (.int .i64 x)) : (part 3 xs i).run Try.prog w = .ok (.int .i64 x) w := by
  simp [part, isAgg, run_underlying Try.underlying3, h]
theorem eq36 (a b a' b' : Int) (w : World) : (Op.equalIn 10000 36 (.agg #[.int .i64 a, .int .i64 b]) (.agg #[.int .i64 a', .int .i64 b'])).run Try.prog w = .ok ((a == a') && (b == b')) w := by
  rw [run_equalIn_struct w 9999 36 _ _ (by kernel_rfl) (by kernel_rfl), fields36]
  have he : ∀ (x y : Int) (w : World), (Op.equalIn 9999 3 (.int .i64 x) (.int .i64 y)).run Try.prog w = .ok (x == y) w := fun x y w => run_equalIn_int w 9998 3 .i64 .i64 x y Try.underlying3
  have p0 : ∀ w, (part 3 #[.int .i64 a, .int .i64 b] 0).run Try.prog w = .ok (.int .i64 a) w := fun w => part_int36 _ 0 a w rfl
  have p1 : ∀ w, (part 3 #[.int .i64 a, .int .i64 b] 1).run Try.prog w = .ok (.int .i64 b) w := fun w => part_int36 _ 1 b w rfl
  have q0 : ∀ w, (part 3 #[.int .i64 a', .int .i64 b'] 0).run Try.prog w = .ok (.int .i64 a') w := fun w => part_int36 _ 0 a' w rfl
  have q1 : ∀ w, (part 3 #[.int .i64 a', .int .i64 b'] 1).run Try.prog w = .ok (.int .i64 b') w := fun w => part_int36 _ 1 b' w rfl
  cases h1 : (a == a') <;> cases h2 : (b == b') <;> simp [Op.eqFields, p0, p1, q0, q1, he, h1, h2, Sem.run_bind, Sem.run_ite]

theorem u32s_blk1 {w : World} {g u : Nat} (hu : u < 4294967296) (h : w.heap[g]? = some (.cells #[.int .u32 (u : Int)] 28 (0, 0))) : U32s w (some ⟨g, 0, none⟩) [u] := by
  refine ⟨fun x hx => ?_, .inr ⟨g, 0, rfl, fun i hi => ?_⟩⟩
  · simp at hx; subst hx; exact hu
  · match i, hi with
    | 0, _ => simpa using cells1 h

/-- One news, lent out. -/
theorem news_one {w : World} {base : Nat} {a : Option Addr} {cap : Nat} {x y : Int} (h : w.ownsRow base 36 2 (.slice a 1 cap) 1 [.int .i64 x, .int .i64 y]) :
    ∃ g, a = some ⟨g, 0, none⟩ ∧ base ≤ g ∧ ∃ cur : Array Value, w.heap[g]? = some (.cells cur 36 (0, 0)) ∧ cur[0]? = some (.int .i64 x) ∧ cur[1]? = some (.int .i64 y) := by
  rcases h.2 with ⟨_, h0⟩ | ⟨g, cap', cur, e, hb, hh, h1, h2, h3, h4⟩
  · cases h0
  · cases e
    have h5 : ∀ i : Nat, i < 2 → cur[i]? = [Value.int .i64 x, Value.int .i64 y][i]? := by
      intro i hi
      have := congrArg (fun l => l[i]?) h4
      simp only [List.getElem?_take_of_lt (show i < 1 * 2 by omega)] at this
      simpa using this
    exact ⟨g, rfl, hb, cur, hh, h5 0 (by omega), h5 1 (by omega)⟩

set_option maxRecDepth 100000 in
set_option maxHeartbeats 2000000 in
theorem known26 (w : World) : Calls Try.prog 17 #[] w fun e w' => e = .returned (.bool true) ∧ Below w.heap.size w w' := by
  go_enter Try.func17, Try.ntmps17
  go_wp2_with fail
  refine (hnew_ok 5 _ (by omega)).mono ?_
  rintro e w1 ⟨rfl, rfl⟩
  go_wp2_with fail
  refine (period_ok w.heap.size 5 0 0 (.slice none 0 0) 2 _ (heap_alloc_new _ _) (by omega) (by omega)).mono ?_
  rintro e w2 ⟨rfl, hH, hU⟩
  have HH := Lib.hid hH
  have HU := Lib.hid hU
  have s2 := hU.size
  clear hH hU
  go_wp2_with fail
  refine (peers_ok w.heap.size 5 2 2 (.slice none 0 0) ⟨_, _, _, rfl⟩ [393217] _ 1 _ (akeep _ HH.out) (by omega) (by simp) (u32s_blk1 (u := 393217) (by omega) (heap_alloc_new _ _)) (by decide +kernel)).mono ?_
  rintro e w3 ⟨rfl, v, hH, hown, hU3⟩
  have hmk : mkP [393217] = [⟨6, 1, false, 0, 0⟩] := by unfold mkP waOk; simp
  rw [hmk] at hown
  obtain ⟨a, c, g, rfl, hP, hge⟩ := PrAt.of_own (n := 0) hown
  have HH3 := Lib.hid hH
  have HP3 := Lib.hid hP
  have HU3 := Lib.hid hU3
  have s3 := hU3.size
  have hg0 : w2.heap.size ≤ g := by rcases hge with h | h; (· simp at h); (· simp at h; omega)
  clear hH hP hU3 hown hge HH
  go_wp2_with fail
  refine (tickH_any w.heap.size g 5 2 2 a 1 c [⟨6, 1, false, 0, 0⟩] 127 _ HH3.out HP3.out (by omega) (by omega) (by omega) (by intro p hp; simp at hp; subst hp; simp)).mono ?_
  rintro e w4 ⟨out, nv, rfl, hout, hown, hH, hP, hU4⟩
  have hout' : out = .slice none 0 0 := by
    rcases hout with ⟨h, _⟩ | ⟨_, h⟩
    · exact absurd h (by unfold btDue; omega)
    · exact h
  subst hout'
  obtain ⟨na, nc, rfl⟩ := news_shape hown
  have HH4 := Lib.hid (show Hrt w4 w.heap.size 5 2 1 (.slice a 1 c) from hH)
  have HP4 := Lib.hid (show PrAt w4 a 1 g [⟨6, 1, false, 0, 0⟩] from hP)
  have HU4 := Lib.hid hU4
  have s4 := hU4.size
  clear hout hown hH hP hU4 HH3 HP3
  go_wp2_with fail
  have hB5 := heap_alloc_new w4 (.cells #[.int .u8 5] 5)
  refine (recvH_yes w.heap.size g 5 2 1 a 1 c [⟨6, 1, false, 0, 0⟩] 1798 false [5] _ 1 _ (akeep _ HH4.out) (HP4.out.same fun cs hh => akeep _ hh) (by omega) (by omega) (by simp) (bytes_blk1 (x := 5) hB5) (by decide +kernel)).mono ?_
  rintro e w5 ⟨nv, rfl, hown, hH, hP, hU5⟩
  rw [show heN 1798 false [5] = 6 by decide +kernel, show heS 1798 false [5] = 5 by decide +kernel] at hP
  rw [show heN 1798 false [5] = 6 by decide +kernel] at hown
  have HH5 := Lib.hid hH
  have HP5 := Lib.hid (show PrAt w5 a 1 g [⟨6, 1, true, 5, 1⟩] from hP)
  have HO5 := Lib.hid (show w5.ownsRow _ 36 2 nv 1 [.int .i64 1, .int .i64 6] from hown)
  have HU5 := Lib.hid hU5
  have s5 := hU5.size
  obtain ⟨na5, nc5, rfl⟩ := news_shape hown
  clear hown hH hP hU5 HH4 HP4 hB5
  go_wp2_with fail
  obtain ⟨gn, hna, hgn, cur, h5, k50, k51⟩ := news_one (x := 1) (y := 6) HO5.out
  subst hna
  have hgng : ¬ gn = g := by
    rcases HP5.out.ne h5 (by decide) with h | h
    · omega
    · exact fun e => h e.symm
  have hgl5 := (HP5.out.free (by omega) 0).2
  have hgn0 : w4.heap.size < gn := by simp at hgn; omega
  refine (tickH_any w.heap.size g 5 2 1 a 1 c [⟨6, 1, true, 5, 1⟩] 127 _ HH5.out HP5.out (by omega) (by omega) (by omega) (by intro p hp; simp at hp; subst hp; simp)).mono ?_
  rintro e w6 ⟨out, nv, rfl, hout, hown, hH, hP, hU6⟩
  obtain ⟨gf, rfl, hgf, hB⟩ : ∃ gf, out = .slice (some ⟨gf, 0, none⟩) 1 1 ∧ w5.heap.size ≤ gf ∧ Beat1 w6 w5.heap.size gf 5 127 := by
    rcases hout with ⟨_, h⟩ | ⟨h, _⟩
    · exact h
    · exact absurd (show btDue 2 1 127 by unfold btDue svB; omega) h
  have HO6 := Lib.hid (show w6.ownsRow _ 36 2 nv 1 [.int .i64 2, .int .i64 6] from hown)
  have HU6 := Lib.hid hU6
  have HB6 := Lib.hid hB
  obtain ⟨na6, nc6, rfl⟩ := news_shape hown
  have h6 := hU6.block_some h5 (by simp at s2 s3 s4; omega)
  obtain ⟨g6, hna6, hg6, cur6, h66, k60, k61⟩ := news_one (x := 2) (y := 6) HO6.out
  subst hna6
  obtain ⟨df, hf6, hd6, _⟩ := HB6.out
  obtain ⟨f0, f1, f2⟩ := cells3' hf6
  have n50 : w6.cell? ⟨gn, 0, none⟩ = some (.int .i64 1) := by simpa [World.cell?, h6] using k50
  have n51 : w6.cell? ⟨gn, 0 + 1, none⟩ = some (.int .i64 6) := by simpa [World.cell?, h6] using k51
  have n60 : w6.cell? ⟨g6, 0, none⟩ = some (.int .i64 2) := by simpa [World.cell?, h66] using k60
  have n61 : w6.cell? ⟨g6, 0 + 1, none⟩ = some (.int .i64 6) := by simpa [World.cell?, h66] using k61
  clear hout hown hH hP hU6
  go_wp2_with fail
  go_ret
  refine ⟨rfl, ?_⟩
  have U : Upd (fun k => w.heap.size ≤ k) w w6 := by
    have a1 := (Upd.refl (fun k => w.heap.size ≤ k) w).alloc (.cells #[.int .i64 5, .int .i64 0, .int .i64 0, .slice none 0 0] 80)
    have a2 := a1.trans HU.out (fun i _ h => Nat.le_of_eq h.symm)
    have a3 := (a2.alloc _).trans HU3.out (fun i _ h => Nat.le_of_eq h.symm)
    have hgw : w.heap.size ≤ g := by simp at s2; omega
    have a4 := a3.trans HU4.out (fun i _ h => h.elim (fun e => Nat.le_of_eq e.symm) (fun e => by omega))
    have a5 := (a4.alloc _).trans HU5.out (fun i _ h => by omega)
    exact a5.trans HU6.out (fun i _ h => h.elim (fun e => Nat.le_of_eq e.symm) (fun e => by omega))
  exact U.toBelow (Nat.le_refl _) (fun i h k => by omega)
end Go.Proofs.Ytpnnmcicpjebmaa
