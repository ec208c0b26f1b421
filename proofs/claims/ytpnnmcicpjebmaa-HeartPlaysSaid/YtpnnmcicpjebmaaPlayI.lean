/-
  What holds between the operations of HeartPlays.
-/
import Derived.Test.YtpnnmcicpjebmaaRPeersH
import Derived.Test.YtpnnmcicpjebmaaState
set_option linter.unusedSimpArgs false
set_option linter.unusedVariables false
namespace Go.Proofs.Ytpnnmcicpjebmaa
open Go.RowKit

def Lim (ev le : Int) (ps : List Pr) (m : Nat) : Prop := (0 ≤ ev ∧ ev ≤ 65535) ∧ (0 ≤ le ∧ le ≤ 65535) ∧ (ev ≠ 0 → 1 ≤ le) ∧ m ≤ 4 ∧ ∀ p ∈ ps, (1 ≤ p.time ∧ p.time ≤ 65535) ∧ (p.there = true → (1 ≤ p.left ∧ p.left ≤ 65535) ∧ 0 ≤ p.state)

theorem Lim.tick {ev le : Int} {ps : List Pr} {m : Nat} (h : Lim ev le ps m) : Lim ev (btL ev le) (ps.map tkP) m := by
  obtain ⟨h1, h2, h3, h4, h5⟩ := h
  refine ⟨h1, ?_, ?_, h4, fun p hp => ?_⟩
  · unfold btL
    by_cases c : ev = 0
    · rw [if_pos c]; exact h2
    · rw [if_neg c]
      by_cases d : 1 < le
      · rw [if_pos d]; omega
      · rw [if_neg d]; omega
  · intro c
    unfold btL
    rw [if_neg c]
    by_cases d : 1 < le
    · rw [if_pos d]; omega
    · rw [if_neg d]; omega
  · obtain ⟨q, hq, rfl⟩ := List.mem_map.1 hp
    obtain ⟨k1, k2⟩ := h5 q hq
    unfold tkP
    by_cases c : q.there = true
    · obtain ⟨k3, k4⟩ := k2 c
      rw [if_pos c]
      by_cases d : q.left = 1
      · rw [if_pos d]; exact ⟨k1, fun h => by cases h⟩
      · rw [if_neg d]; exact ⟨k1, fun _ => ⟨by simp only; omega, k4⟩⟩
    · rw [if_neg c]; exact ⟨k1, k2⟩
theorem Lim.recv {ev le : Int} {ps : List Pr} {m : Nat} (h : Lim ev le ps m) (nd st : Int) (hs : 0 ≤ st) : Lim ev le (ps.map (rcP nd st)) m := by
  obtain ⟨h1, h2, h3, h4, h5⟩ := h
  refine ⟨h1, h2, h3, h4, fun p hp => ?_⟩
  obtain ⟨q, hq, rfl⟩ := List.mem_map.1 hp
  obtain ⟨k1, k2⟩ := h5 q hq
  unfold rcP
  by_cases c : q.node = nd
  · rw [if_pos c]; exact ⟨k1, fun _ => ⟨k1, hs⟩⟩
  · rw [if_neg c]; exact ⟨k1, k2⟩
theorem Lim.period {ev le : Int} {ps : List Pr} {m : Nat} (h : Lim ev le ps m) (t : Int) (ht : 0 ≤ t ∧ t ≤ 65535) : Lim t t ps m := ⟨ht, ht, fun c => by omega, h.2.2.2⟩
theorem Lim.peers {ev le : Int} {ps : List Pr} {m : Nat} (h : Lim ev le ps m) (us : List Nat) (hE : wrE us = 0) : Lim ev le (mkP us) (mkP us).length := by
  obtain ⟨h1, h2, h3, h4, h5⟩ := h
  refine ⟨h1, h2, h3, Nat.le_trans (mkP_len us) (wrE_len hE), fun p hp => ?_⟩
  unfold mkP at hp
  obtain ⟨u, hu, rfl⟩ := List.mem_map.1 hp
  have hw : waOk u := by simpa using (List.mem_filter.1 hu).2
  refine ⟨?_, fun h => by cases h⟩
  unfold waOk at hw
  simp only
  omega

/-- Where the play stands: the heart in block b, its peers in g, the reference's in rb and rg. -/
def PC (w : World) (n : Int) (b rb : Nat) (ev le : Int) (ps : List Pr) (m : Nat) (a : Option Addr) (g c : Nat) (ra : Option Addr) (rg rc : Nat) (wr : World) : Prop :=
  Hrt wr b n ev le (.slice a m c) ∧ PrAt wr a m g ps ∧ RHrt wr rb n ev le (.slice ra m rc) ∧ RPrAt wr ra m rg ps ∧ Lim ev le ps m ∧
    (w.heap.size ≤ b ∧ w.heap.size ≤ rb ∧ (m = 0 ∨ (w.heap.size ≤ g ∧ w.heap.size ≤ rg))) ∧ Below w.heap.size w wr
def PlayI (w : World) (n : Int) (b rb : Nat) (wr : World) : Prop := ∃ ev le ps m a g c ra rg rc, PC w n b rb ev le ps m a g c ra rg rc wr

section
variable {w wr : World} {n : Int} {b rb : Nat} {ev le : Int} {ps : List Pr} {m : Nat} {a : Option Addr} {g c : Nat} {ra : Option Addr} {rg rc : Nat}

theorem PC.lt (h : PC w n b rb ev le ps m a g c ra rg rc wr) : b < wr.heap.size ∧ rb < wr.heap.size ∧ (m = 0 ∨ (g < wr.heap.size ∧ rg < wr.heap.size)) := by
  obtain ⟨h1, h2, h3, h4, _⟩ := h
  refine ⟨h1.lt, h3.lt, ?_⟩
  by_cases h0 : m = 0
  · exact .inl h0
  · exact .inr ⟨(h2.free (by omega) 0).2, (h4.free (by omega) 0).2⟩
theorem PC.apart (h : PC w n b rb ev le ps m a g c ra rg rc wr) : rb ≠ b ∧ (m = 0 ∨ (rb ≠ g ∧ rg ≠ b ∧ rg ≠ g ∧ g ≠ b ∧ rg ≠ rb)) := by
  obtain ⟨h1, h2, h3, h4, _⟩ := h
  refine ⟨fun e => ?_, ?_⟩
  · subst e
    unfold Hrt at h1
    unfold RHrt at h3
    rw [h1] at h3
    cases h3
  · by_cases h0 : m = 0
    · exact .inl h0
    · refine .inr ⟨fun e => ?_, fun e => ?_, fun e => ?_, fun e => ?_, fun e => ?_⟩
      · exact ((h2.ne h3 (by decide)).resolve_left h0) e.symm
      · exact ((h4.ne h1 (by decide)).resolve_left h0) e
      · rcases h2.2 with hh | ⟨_, cs, hc, _⟩
        · exact h0 hh
        · exact ((h4.ne hc (by decide)).resolve_left h0) e
      · exact ((h2.ne h1 (by decide)).resolve_left h0) e
      · exact ((h4.ne h3 (by decide)).resolve_left h0) e
/-- What changes blocks of no part of the play. -/
theorem PC.upd {S : Nat → Prop} {w' : World} (h : PC w n b rb ev le ps m a g c ra rg rc wr) (hu : Upd S wr w') (hS : ¬ S b ∧ ¬ S rb ∧ (m = 0 ∨ (¬ S g ∧ ¬ S rg))) (hlo : ∀ k, k < w.heap.size → ¬ S k) : PC w n b rb ev le ps m a g c ra rg rc w' := by
  obtain ⟨h1, h2, h3, h4, h5, h6, h7⟩ := h
  refine ⟨hu.block_some h1 hS.1, h2.upd hu (hS.2.2.imp (fun x => x) (·.1)), hu.block_some h3 hS.2.1, h4.upd hu (hS.2.2.imp (fun x => x) (·.2)), h5, h6, h7.trans (hu.toBelow h7.size hlo)⟩
theorem PC.below {w' : World} (h : PC w n b rb ev le ps m a g c ra rg rc wr) (hb : Below wr.heap.size wr w') : PC w n b rb ev le ps m a g c ra rg rc w' :=
  h.upd (Upd.ofBelow' (S := fun _ => False) hb) ⟨fun x => x, fun x => x, .inr ⟨fun x => x, fun x => x⟩⟩ (fun _ _ x => x)
/-- The heart's part changes alone. -/
theorem PC.mine {S : Nat → Prop} {w' : World} (h : PC w n b rb ev le ps m a g c ra rg rc wr) (hu : Upd S wr w') (hS : ∀ k, S k → k = b ∨ (m ≠ 0 ∧ k = g)) :
    RHrt w' rb n ev le (.slice ra m rc) ∧ RPrAt w' ra m rg ps ∧ Below w.heap.size w w' := by
  obtain ⟨a1, a2⟩ := h.apart
  obtain ⟨h1, h2, h3, h4, h5, h6, h7⟩ := h
  refine ⟨hu.block_some h3 (fun k => ?_), h4.upd hu ?_, h7.trans (hu.toBelow h7.size (fun k hk hs => ?_))⟩
  · rcases hS _ k with e | ⟨e0, e⟩
    · exact a1 e
    · exact (a2.resolve_left e0).1 e
  · by_cases h0 : m = 0
    · exact .inl h0
    · refine .inr (fun k => ?_)
      have a3 := a2.resolve_left h0
      rcases hS _ k with e | ⟨e0, e⟩
      · exact a3.2.1 e
      · exact a3.2.2.1 e
  · rcases hS _ hs with e | ⟨e0, e⟩
    · omega
    · have := h6.2.2.resolve_left e0; omega
/-- The reference's part changes alone. -/
theorem PC.theirs {S : Nat → Prop} {w' : World} (h : PC w n b rb ev le ps m a g c ra rg rc wr) (hu : Upd S wr w') (hS : ∀ k, S k → k = rb ∨ (m ≠ 0 ∧ k = rg)) :
    Hrt w' b n ev le (.slice a m c) ∧ PrAt w' a m g ps ∧ Below w.heap.size w w' := by
  obtain ⟨a1, a2⟩ := h.apart
  obtain ⟨h1, h2, h3, h4, h5, h6, h7⟩ := h
  refine ⟨hu.block_some h1 (fun k => ?_), h2.upd hu ?_, h7.trans (hu.toBelow h7.size (fun k hk hs => ?_))⟩
  · rcases hS _ k with e | ⟨e0, e⟩
    · exact a1 e.symm
    · exact (a2.resolve_left e0).2.1 e.symm
  · by_cases h0 : m = 0
    · exact .inl h0
    · refine .inr (fun k => ?_)
      have a3 := a2.resolve_left h0
      rcases hS _ k with e | ⟨e0, e⟩
      · exact a3.1 e.symm
      · exact a3.2.2.1 e.symm
  · rcases hS _ hs with e | ⟨e0, e⟩
    · omega
    · have := h6.2.2.resolve_left e0; omega
end

theorem PC.step {w wr w1 w2 : World} {n : Int} {b rb : Nat} {ev le ev' le' : Int} {ps ps' : List Pr} {m m' : Nat} {a a' : Option Addr} {g g' c c' : Nat} {ra ra' : Option Addr} {rg rg' rc rc' : Nat} {S1 S2 : Nat → Prop}
    (h : PC w n b rb ev le ps m a g c ra rg rc wr) (hu1 : Upd S1 wr w1) (h1 : ∀ k, S1 k → k = b ∨ (m ≠ 0 ∧ k = g)) (hH : Hrt w1 b n ev' le' (.slice a' m' c')) (hP : PrAt w1 a' m' g' ps')
    (hu2 : Upd S2 w1 w2) (h2 : ∀ k, S2 k → k = rb ∨ (m ≠ 0 ∧ k = rg)) (hR : RHrt w2 rb n ev' le' (.slice ra' m' rc')) (hRP : RPrAt w2 ra' m' rg' ps') (hL : Lim ev' le' ps' m')
    (hg : m' = 0 ∨ (w.heap.size ≤ g' ∧ w.heap.size ≤ rg')) (hgs : m' = 0 ∨ ¬ S2 g') : PC w n b rb ev' le' ps' m' a' g' c' ra' rg' rc' w2 := by
  obtain ⟨a1, a2⟩ := h.apart
  obtain ⟨_, _, bl⟩ := h.mine hu1 h1
  obtain ⟨k1, k2, k3, k4, k5, k6, k7⟩ := h
  refine ⟨hu2.block_some hH (fun k => ?_), hP.upd hu2 hgs, hR, hRP, hL, ⟨k6.1, k6.2.1, hg⟩, bl.trans (hu2.toBelow bl.size (fun k hk hs => ?_))⟩
  · rcases h2 _ k with e | ⟨e0, e⟩
    · exact a1 e.symm
    · exact (a2.resolve_left e0).2.1 e.symm
  · rcases h2 _ hs with e | ⟨e0, e⟩
    · omega
    · have := k6.2.2.resolve_left e0; omega

theorem own_keep {w w' : World} {S : Nat → Prop} {base e sz n : Nat} {v : Value} {xs : List Value} (h : w.ownsRow base e sz v n xs) (hu : Upd S w w') (hS : ∀ k, base ≤ k → ¬ S k) : w'.ownsRow base e sz v n xs := by
  refine ⟨h.1, ?_⟩
  rcases h.2 with h | ⟨g, cap, cur, rfl, hg, hh, rest⟩
  · exact .inl h
  · exact .inr ⟨g, cap, cur, rfl, hg, hu.block_some hh (hS g hg), rest⟩
theorem own_byte {w : World} {base d : Nat} {z : Int} (h : w.heap[d]? = some (.cells #[.int .u8 z] 5 (0, 0))) (hb : base ≤ d) : w.ownsRow base 5 1 (.slice (some ⟨d, 0, none⟩) 1 1) 1 [.int .u8 z] :=
  ⟨rfl, .inr ⟨d, 1, _, rfl, hb, h, by decide, by unfold maxLen; decide, rfl, rfl⟩⟩
theorem fb_of {w : World} {lo g : Nat} {n st : Int} (h : Beat1 w lo g n st) : ∃ d, lo ≤ d ∧ FB w g d n st := by
  obtain ⟨d, h1, h2, h3⟩ := h
  exact ⟨d, h3, ⟨_, h1, rfl, rfl, rfl⟩, h2⟩
end Go.Proofs.Ytpnnmcicpjebmaa
