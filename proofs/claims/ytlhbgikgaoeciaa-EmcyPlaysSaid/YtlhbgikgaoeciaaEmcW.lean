/-
  Steps of EmcyPlays: what holds behind Raise and Clear of both.
-/
import Derived.Test.YtlhbgikgaoeciaaEmcV
set_option linter.unusedSimpArgs false
set_option linter.unusedVariables false
namespace Go.Proofs.Ytlhbgikgaoeciaa
open Go.RowKit

theorem remS_not {w : World} {R k t : Nat} {n : Int} {cv xv rv : Value} {fs : List (Int × Int)} {hs : List Int} {cs : Array Value} (h : REm w R n cv xv rv fs hs) (hk : w.heap[k]? = some (.cells cs t (0, 0))) (h1 : t ≠ 41) (h2 : t ≠ 3) : ¬ (k = R ∨ cv.ownBlock = some k ∨ xv.ownBlock = some k) := by
  rintro (e | e | e)
  · subst e
    rw [h.1] at hk
    injection hk with hk
    injection hk with _ e2
    exact h1 e2.symm
  · exact h2 (lax_ty h.2.1 e hk)
  · exact h2 (lax_ty h.2.2.1 e hk)

section
variable {w wr w1 w2 : World} {n : Int} {B R : Nat} {av hv cv xv rv av' hv' cv' xv' rv' : Value} {fs fs' : List (Int × Int)} {hs hs' : List Int}
theorem PlS.rem1 (h : PlS w n B R av hv cv xv rv fs hs wr) (hu1 : Upd (fun k => k = B ∨ av.ownBlock = some k) wr w1) : REm w1 R n cv xv rv fs hs := by
  have key : ∀ (e size m : Nat) (v : Value) (xs : List Value), Lax wr e size v m xs → e ≠ 62 → e ≠ 64 → ∀ j, v.ownBlock = some j → ¬ (j = B ∨ av.ownBlock = some j) := by
    intro e size m v xs hL h1 h2 j hj
    obtain ⟨_, cur, hc⟩ := hL.lt j hj
    exact emS_not h.1 hc h1 h2
  exact h.2.1.upd hu1 (emS_not h.1 h.2.1.1 (by decide) (by decide)) (key _ _ _ _ _ h.2.1.2.1 (by decide) (by decide)) (key _ _ _ _ _ h.2.1.2.2.1 (by decide) (by decide)) (key _ _ _ _ _ h.2.1.2.2.2.1 (by decide) (by decide))
theorem PlS.next (h : PlS w n B R av hv cv xv rv fs hs wr) (hu1 : Upd (fun k => k = B ∨ av.ownBlock = some k) wr w1) (hE1 : Emc w1 B (128 + n) av' hv' fs' hs') (ha : ∀ k, av'.ownBlock = some k → av.ownBlock = some k ∨ wr.heap.size ≤ k)
    (hu2 : Upd (fun k => k = R ∨ cv.ownBlock = some k ∨ xv.ownBlock = some k) w1 w2) (hR2 : REm w2 R n cv' xv' rv' fs' hs') (hc : ∀ k, cv'.ownBlock = some k → cv.ownBlock = some k ∨ w1.heap.size ≤ k) (hx : ∀ k, xv'.ownBlock = some k → xv.ownBlock = some k ∨ w1.heap.size ≤ k)
    (hf : ∀ p ∈ fs', bitC p.1 ≠ 0) (hl : fs'.length ≤ 64) (hh : hs'.length ≤ 4) : PlS w n B R av' hv' cv' xv' rv' fs' hs' w2 := by
  have hR1 := h.rem1 hu1
  have key : ∀ (e size m : Nat) (v : Value) (xs : List Value), Lax w1 e size v m xs → e ≠ 41 → e ≠ 3 → ∀ j, v.ownBlock = some j → ¬ (j = R ∨ cv.ownBlock = some j ∨ xv.ownBlock = some j) := by
    intro e size m v xs hL h1 h2 j hj
    obtain ⟨_, cur, hc⟩ := hL.lt j hj
    exact remS_not hR1 hc h1 h2
  have hE2 := hE1.up hu2 (remS_not hR1 hE1.1 (by decide) (by decide)) (key _ _ _ _ _ hE1.2.1 (by decide) (by decide)) (key _ _ _ _ _ hE1.2.2 (by decide) (by decide))
  obtain ⟨h1, h2, h3, h4, h5, h6, ⟨h7, h8⟩, h9, h10, h11⟩ := h
  have b1 := belowU h6 hu1 (fun k e => e.elim (fun e => by omega) (fun e => h9 k e)) (Nat.le_refl _)
  have b2 := belowU b1 hu2 (fun k e => e.elim (fun e => by omega) (fun e => e.elim (fun e => h10 k e) (fun e => h11 k e))) (Nat.le_refl _)
  refine ⟨hE2, hR2, hf, hl, hh, b2, ⟨h7, h8⟩, fun k e => ?_, fun k e => ?_, fun k e => ?_⟩
  · rcases ha k e with e | e
    · exact h9 k e
    · have := h6.size; omega
  · rcases hc k e with e | e
    · exact h10 k e
    · have := b1.size; omega
  · rcases hx k e with e | e
    · exact h11 k e
    · have := b1.size; omega
/-- A frame of the first stays behind the second's call. -/
theorem emF_behind {lo g : Nat} {id x r i : Int} (hF : EmF w1 lo g id x r i) (hR : REm w1 R n cv xv rv fs hs) (hu2 : Upd (fun k => k = R ∨ cv.ownBlock = some k ∨ xv.ownBlock = some k) w1 w2) : EmF w2 lo g id x r i :=
  hF.upd hu2 (fun k cs t hk ht => by
    rcases ht with rfl | rfl
    · exact remS_not hR hk (by decide) (by decide)
    · exact remS_not hR hk (by decide) (by decide))
theorem op_behind1 {k : Nat} {cs : Array Value} (hk : wr.heap[k]? = some (.cells cs 28 (0, 0))) (h : PlS w n B R av hv cv xv rv fs hs wr) (hu1 : Upd (fun k => k = B ∨ av.ownBlock = some k) wr w1) : w1.heap[k]? = some (.cells cs 28 (0, 0)) :=
  hu1.block_some hk (emS_not h.1 hk (by decide) (by decide))
theorem op_behind2 {k : Nat} {cs : Array Value} (hk : w1.heap[k]? = some (.cells cs 28 (0, 0))) (hR : REm w1 R n cv xv rv fs hs) (hu2 : Upd (fun k => k = R ∨ cv.ownBlock = some k ∨ xv.ownBlock = some k) w1 w2) : w2.heap[k]? = some (.cells cs 28 (0, 0)) :=
  hu2.block_some hk (remS_not hR hk (by decide) (by decide))
end
end Go.Proofs.Ytlhbgikgaoeciaa
