/-
  The fixed calls of the emcy laws.
-/
import Derived.Test.YtlhbgikgaoeciaaEmcF
set_option linter.unusedSimpArgs false
set_option linter.unusedVariables false
namespace Go.Proofs.Ytlhbgikgaoeciaa
open Go.RowKit
attribute [local go_sem] Oper.semAt_some

theorem emS_not {w : World} {b k t : Nat} {id : Int} {av hv : Value} {fs : List (Int × Int)} {hs : List Int} {cs : Array Value} (h : Emc w b id av hv fs hs) (hk : w.heap[k]? = some (.cells cs t (0, 0))) (h1 : t ≠ 62) (h2 : t ≠ 64) : ¬ (k = b ∨ av.ownBlock = some k) := by
  rintro (e | e)
  · subst e
    rw [h.1] at hk
    injection hk with hk
    injection hk with _ e2
    exact h1 e2.symm
  · obtain ⟨_, cur, hc⟩ := h.2.1.lt k e
    rw [hc] at hk
    injection hk with hk
    injection hk with _ e2
    exact h2 e2.symm
theorem EmF.upd {S : Nat → Prop} {w w' : World} {lo g : Nat} {id x r i : Int} (h : EmF w lo g id x r i) (hu : Upd S w w') (hS : ∀ k cs t, w.heap[k]? = some (.cells cs t (0, 0)) → t = 49 ∨ t = 5 → ¬ S k) : EmF w' lo g id x r i := by
  obtain ⟨d, c, h1, h2, h3⟩ := h
  refine ⟨d, c, hu.block_some h1 (hS _ _ _ h1 (.inl rfl)), h2, h3.upd hu (fun k hk => ?_)⟩
  obtain ⟨_, cur, hc⟩ := h3.lt k hk
  exact hS _ _ _ hc (.inr rfl)
theorem EmF.below {w w' : World} {lo g : Nat} {id x r i : Int} (h : EmF w lo g id x r i) (hb : Below w.heap.size w w') : EmF w' lo g id x r i :=
  h.upd (Upd.ofBelow' (S := fun _ => False) hb) (fun _ _ _ _ _ h => h)

set_option maxRecDepth 100000 in
theorem string27 {w : World} {x : Addr} {cap : Nat} {l : List UInt8} (h : ∀ j (hj : j < l.length), w.cell? (x.add j) = some (.int .u8 (l[j].toNat : Int))) :
    (convert 47 9 (.slice (some x) l.length cap)).run Try.prog w = .ok (.string ⟨l.toArray⟩) w :=
  run_convert_bytes_back (P := Try.prog) w 47 9 5 x cap l Try.underlying47 Try.underlying5 Try.underlying9 h

theorem emF_string {w : World} {d c : Nat} {x r i : Int} (l : List UInt8) (hl : l.length = 8) (h : Lax w 5 1 (.slice (some ⟨d, 0, none⟩) 8 c) 8 (emB x r i)) (he : emB x r i = l.map (fun u => Value.int .u8 (u.toNat : Int))) :
    (convert 47 9 (.slice (some ⟨d, 0, none⟩) 8 c)).run Try.prog w = .ok (.string ⟨l.toArray⟩) w := by
  have := string27 (w := w) (x := ⟨d, 0, none⟩) (cap := c) (l := l) (fun j hj => by
    rw [Addr.add_lit, Nat.zero_add]
    apply h.cell
    rw [he, List.getElem?_map, List.getElem?_eq_getElem hj]
    rfl)
  rw [hl] at this
  exact this

set_option maxRecDepth 100000 in
set_option maxHeartbeats 4000000 in
theorem known27 (w : World) : Calls Try.prog 13 #[] w fun e w' => e = .returned (.bool true) ∧ Below w.heap.size w w' := by
  go_enter Try.func13, Try.ntmps13
  go_wp2_with fail
  refine (new_ok 5 _ (by omega)).mono ?_
  rintro e w1 ⟨B, rfl, hB1, hE1, hb1⟩
  have HE1 := Lib.hid (show Emc w1 B 133 (.slice none 0 0) (.slice none 0 0) [] [] from hE1)
  have HB1 := Lib.hid hb1
  have s1 := hb1.size
  clear hE1 hb1
  go_wp2_with fail
  refine (raise_yes B 133 (.slice none 0 0) (.slice none 0 0) [] [] 33296 2 _ HE1.out (by omega) (by decide +kernel) (by simp) (by simp)).mono ?_
  rintro e w2 ⟨g2, av2, hv2, rfl, hg2, hF2, hE2, hU2, ha2, hh2⟩
  have HE2 := Lib.hid (show Emc w2 B 133 av2 hv2 [(33296, 2)] [164368] from hE2)
  have HF2 := Lib.hid (show EmF w2 w1.heap.size g2 133 33296 17 2 from hF2)
  have HU2 := Lib.hid hU2
  have HA2 := Lib.hid ha2
  have s2 := hU2.size
  clear hE2 hF2 hU2 ha2 hh2 hg2
  go_wp2_with fail
  refine (raise_no B 133 av2 hv2 [(33296, 2)] [164368] 33296 2 _ HE2.out (by omega) (by decide +kernel)).mono ?_
  rintro e w3 ⟨rfl, hb3⟩
  have HE3 := Lib.hid (HE2.out.below hb3)
  have HF3 := Lib.hid (HF2.out.below hb3)
  have HB3 := Lib.hid hb3
  have s3 := hb3.size
  clear hb3
  go_wp2_with fail
  refine (clear_yes B 133 av2 hv2 [(33296, 2)] [164368] 33296 2 _ HE3.out (by simp) (by simp)).mono ?_
  rintro e w4 ⟨g4, av4, rfl, hg4, hF4, hE4, hU4, ha4⟩
  have HE4 := Lib.hid (show Emc w4 B 133 av4 hv2 [] [164368] from hE4)
  have HG4 := Lib.hid (show EmF w4 w3.heap.size g4 133 0 0 2 from hF4)
  have HF4 := Lib.hid (HF3.out.upd hU4 (fun k cs t hk ht => emS_not HE3.out hk (by rcases ht with rfl | rfl <;> decide) (by rcases ht with rfl | rfl <;> decide)))
  have HU4 := Lib.hid hU4
  have s4 := hU4.size
  clear hF4 hE4 hU4 ha4 hg4
  go_wp2_with fail
  refine (history_any B 133 av4 hv2 [] [164368] _ HE4.out (by simp)).mono ?_
  rintro e w5 ⟨v5, rfl, hown, hb5⟩
  have HF5 := Lib.hid (HF4.out.below hb5)
  have HG5 := Lib.hid (HG4.out.below hb5)
  obtain ⟨g5, c5, rfl, hg5, hgl5⟩ := own_shape (n := 1) hown (by omega)
  have n0 : w5.cell? ⟨g5, 0, none⟩ = some (.int .u32 164368) := (World.ownsRow.cellAt (n := 1) hown 0 (by omega))
  have HB5 := Lib.hid hb5
  have hd2 : av2.ownBlock = none ∨ ∃ k, av2.ownBlock = some k ∧ w1.heap.size ≤ k := by
    cases h : av2.ownBlock with
    | none => exact .inl rfl
    | some k => exact .inr ⟨k, rfl, (HA2.out k h).resolve_left (fun e => by cases e)⟩
  have U : Hid (Below w.heap.size w w5) := by
    have a1 := (Upd.ofBelow (B := w.heap.size) HB1.out)
    have a2 := a1.trans HU2.out (fun k _ h => by rcases h with h | h; (· omega); (· cases h))
    have a3 := a2.trans (Upd.ofBelow' (S := fun _ => False) HB3.out) (fun _ _ h => h.elim)
    have a4 := a3.trans HU4.out (fun k _ h => by
      rcases h with h | h
      · omega
      · rcases hd2 with e | ⟨k', e, hk'⟩
        · rw [e] at h; cases h
        · rw [e] at h; cases h; omega)
    have a5 := a4.trans (Upd.ofBelow' (S := fun _ => False) HB5.out) (fun _ _ h => h.elim)
    exact a5.toBelow (Nat.le_refl _) (fun k hk hs => by omega)
  obtain ⟨d1, k1, f1, _, hl1⟩ := HF5.out
  obtain ⟨d2, k2, f2, _, hl2⟩ := HG5.out
  obtain ⟨p0, p1, p2⟩ := cells3' f1
  obtain ⟨q0, q1, q2⟩ := cells3' f2
  have S1 := emF_string [16, 130, 17, 2, 0, 0, 0, 0] rfl hl1 rfl
  have S2 := emF_string [0, 0, 0, 2, 0, 0, 0, 0] rfl hl2 rfl
  have BT := Lib.hid (bit_any 65280 w5)
  have hb129 : bitC 65280 = 129 := by decide
  rw [hb129] at BT
  clear hown hb5 hl1 hl2 f1 f2 hd2
  go_wp2_with fail
  refine BT.out.mono ?_
  rintro e w6 ⟨rfl, rfl⟩
  go_wp2_with fail
  go_ret
  exact ⟨rfl, U.out⟩
end Go.Proofs.Ytlhbgikgaoeciaa
