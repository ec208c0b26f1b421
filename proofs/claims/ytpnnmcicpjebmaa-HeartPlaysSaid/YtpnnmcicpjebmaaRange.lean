/-
  A RANGE OVER A FUNCTION whose values are known as a list when the loop begins ('full'), and whose iterator reads memory that the loop's body may write: the caller's invariant I counts the rounds; what the iterator reads between two rounds, Rd, follows from I. Over the wide fence.
-/
import Derived.RangeFuncNested
import Derived.RangeFuncBound
import Derived.RangeFuncCalls
import Derived.RangeFuncLeaves
import Derived.Shelf.Abstract
import Derived.Shelf.RegionOpen
import Derived.WalkKit
import Derived.OwnWalkIn
import Derived.TacticsInMore
import Derived.LoopNIn
import Derived.LoopIn
import Derived.Test.YtpnnmcicpjebmaaKit
set_option linter.unusedSimpArgs false
set_option linter.unusedVariables false
namespace Go.Proofs.Ytpnnmcicpjebmaa
open Go.RowKit

/-- The contract of an iterator value: it calls yield with each of 'full' in turn, till yield says no. -/
def SeqL (P : Program) (g : Nat) (lb : Array Value) (full : List (Array Value)) (Rd : Nat → World → Prop) (w : World) : Prop :=
  ∀ (l : Nat) (J Jx : Nat → World → Prop) (W : World), Below w.heap.size w W →
    (∀ k W1, J k W1 → Rd k W1) →
    (∀ k W1 (hk : k < full.length), J k W1 → YieldAt Fence.wide 0 P l full[k] W1 fun e W' =>
      (e = .returned (.bool true) ∧ J (k + 1) W') ∨ (e = .returned (.bool false) ∧ Jx (k + 1) W')) →
    J 0 W →
    CallsIn Fence.wide 0 P g (#[.func (.yield l) #[] #[]] ++ lb) W fun e W' => (∃ v, e = .returned v) ∧ (J full.length W' ∨ ∃ k, k ≤ full.length ∧ Jx k W')

/-- How the body of a round may be left. -/
def postL (I : Nat → World → Prop) (Ix : Code → Nat → World → Prop) (k : Nat) (W : World) : Exit → Act → World → Prop
  | .normal, _, W' => KeepsOthers W W' ∧ I k W'
  | .ret, _, W' => KeepsOthers W W' ∧ Ix .ret k W'
  | .exit id, _, W' => KeepsOthers W W' ∧ Ix (.exit id) k W'
  | .goto t, _, W' => KeepsOthers W W' ∧ Ix (.goto t) k W'
  | .panic _, _, _ => False
  | .outgrown, _, _ => False

theorem wp_range {P : Program} {g : Operand} {ps : Array Tmp} {assign body : Code} {Q : Exit → Act → World → Prop} {a : Act} {w : World}
    {gf : Nat} {lb : Array Value} (hg : a.eval g = .func (.func gf) #[] lb) (eg : ∀ args w, (callFunc gf args).run P w = .ok (.enter gf args) w)
    {full : List (Array Value)} {Rd : Nat → World → Prop} {w0 : World} (hseq : SeqL P gf lb full Rd w0) (hb0 : Below w0.heap.size w0 w) (hps : ∀ (k : Nat) (h : k < full.length), full[k].size = ps.size)
    (I : Nat → World → Prop) (Ix : Code → Nat → World → Prop) (hI : OwnFrom w.heap.size I) (hIx : ∀ c, OwnFrom w.heap.size (Ix c)) (hRd : ∀ k W, I k W → Rd k W) (h0 : I 0 w) (a₁ : Nat → Act)
    (hassign : ∀ (l k : Nat) (h : k < full.length) (W : World) (K : Act → World → Prop), K (a₁ k) W →
      assign.wpIn (Fence.wide.inRound l) 0 P (Exit.then K (fun _ _ _ => False)) { tmps := (ps.zip full[k]).foldl (fun t (p, v) => t.setIfInBounds p v) a.tmps, defers := [] } W)
    (hbody : ∀ (l k : Nat) (W : World), k < full.length → w.heap.size ≤ W.heap.size → I k W → body.wpIn (Fence.wide.inRound l) 0 P (postL I Ix (k + 1) W) (a₁ k) W)
    (hdone : ∀ (D : Nat) (W : World), w.heap.size ≤ D → I full.length W → W.heap[D]? = some (.deferred (some [])) → Q .normal { a with defers := { target := .collected D, args := #[] } :: a.defers } W)
    (hstop : ∀ (D : Nat) (c : Code) (k : Nat) (W : World), w.heap.size ≤ D → k ≤ full.length → Ix c k W → W.heap[D]? = some (.deferred (some [])) → c.wpIn Fence.wide 0 P Q { a with defers := { target := .collected D, args := #[] } :: a.defers } W) :
    (Code.rangeFunc g ps assign body).wpIn Fence.wide 0 P Q a w := by
  refine wpIn_rangeFunc (fun fn hfn => ?_)
  let D := w.heap.size
  let L := w.heap.size + 1
  let rec0 : Loop := { state := .ready, pending := none, fn, tmps := a.tmps, params := ps, assign, body, defers := D }
  let W1 := (w.alloc (.deferred (some []))).alloc (.loop rec0)
  have hL1 : W1.heap[L]? = some (.loop rec0) := by
    have := World.alloc_heap_new (w.alloc (.deferred (some []))) (.loop rec0)
    rwa [World.size_alloc] at this
  have hD1 : W1.heap[D]? = some (.deferred (some [])) :=
    (Below.heap_alloc _ _ _ (by show w.heap.size < (w.alloc _).heap.size; simp)).trans (World.alloc_heap_new w _)
  have hlt : ∀ {W : World} {i : Nat} {o : Obj}, W.heap[i]? = some o → i < W.heap.size := fun h => (Array.getElem?_eq_some_iff.1 h).1
  refine ⟨L, [{ target := .collected D, args := #[] }], W1, { target := .fn (.func gf) lb, args := #[.func (.yield L) #[] #[]] }, W1, gf, #[.func (.yield L) #[] #[]] ++ lb, W1, run_enterLoop_outer _ _ _ _ _, ?_, fun _ _ => trivial, ?_, (fun h => by cases h), ?_⟩
  · simp only [resolve, hg]
    simp [go_sem]
  · simp [invoke, go_sem, eg]
  refine (hseq L (fun k W => I k W ∧ W.heap[L]? = some (.loop rec0) ∧ W.heap[D]? = some (.deferred (some [])))
    (fun k W => ∃ c, Ix c k W ∧ W.heap[L]? = some (.loop { rec0 with state := .done, pending := some c }) ∧ W.heap[D]? = some (.deferred (some []))) W1
    (hb0.trans ((((Below.refl _ w).alloc (Nat.le_refl _) _).alloc (by simp) _).mono hb0.size)) (fun k W h => hRd k W h.1) ?_ ⟨hI.alloc _ (hI.alloc _ h0), hL1, hD1⟩).mono ?_
  · -- one round
    rintro k W hk ⟨hi, hl, hd⟩
    have hsz : L < W.heap.size := hlt hl
    refine ⟨fn, _, assign, body, run_yield (P := P) (args := full[k]) hl (hps k hk), roundIn_of_wpIn hfn (hassign L k hk W _ ⟨_, run_beginRound hl rfl, ?_⟩)⟩
    let busy : Loop := { rec0 with state := .busy }
    have hl2 : (W.putObj L (.loop busy)).heap[L]? = some (.loop busy) := World.putObj_heap_same hsz
    have hd2 : (W.putObj L (.loop busy)).heap[D]? = some (.deferred (some [])) := (World.putObj_heap_other (by show w.heap.size ≠ w.heap.size + 1; omega)).trans hd
    refine wpIn_mono (hbody L k _ hk (by simp; have : w.heap.size + 1 < W.heap.size := hsz; omega) (hI.putObj _ hi (by show w.heap.size ≤ w.heap.size + 1; omega) hl rfl)) ?_
    have back : ∀ (jump : Option Code) (W3 : World), KeepsOthers (W.putObj L (.loop busy)) W3 →
        (Instr.endRound L jump).run P W3 = .ok (.bool jump.isNone) (W3.putObj L (.loop { busy with state := if jump.isNone then .ready else .done, pending := jump })) ∧ W3.heap[L]? = some (.loop busy) ∧
        (W3.putObj L (.loop { busy with state := if jump.isNone then .ready else .done, pending := jump })).heap[L]? = some (.loop { busy with state := if jump.isNone then .ready else .done, pending := jump }) ∧
        (W3.putObj L (.loop { busy with state := if jump.isNone then .ready else .done, pending := jump })).heap[D]? = some (.deferred (some [])) := fun jump W3 hk3 =>
      have h3 := hk3.same _ _ hl2 rfl
      ⟨run_endRound jump h3, h3, World.putObj_heap_same (hlt h3), (World.putObj_heap_other (by show w.heap.size ≠ w.heap.size + 1; omega)).trans (hk3.same _ _ hd2 rfl)⟩
    have far : D ≤ L := by show w.heap.size ≤ w.heap.size + 1; omega
    intro e a3 W3 hp
    cases e with
    | normal =>
      obtain ⟨h1, h2, h3, h4⟩ := back none W3 hp.1
      exact ⟨_, _, h1, .inl ⟨rfl, hI.putObj _ hp.2 far h2 rfl, h3, h4⟩⟩
    | ret =>
      obtain ⟨h1, h2, h3, h4⟩ := back (some .ret) W3 hp.1
      exact ⟨_, _, h1, .inr ⟨rfl, .ret, (hIx _).putObj _ hp.2 far h2 rfl, h3, h4⟩⟩
    | exit id =>
      obtain ⟨h1, h2, h3, h4⟩ := back (some (.exit id)) W3 hp.1
      exact ⟨_, _, h1, .inr ⟨rfl, .exit id, (hIx _).putObj _ hp.2 far h2 rfl, h3, h4⟩⟩
    | goto t =>
      obtain ⟨h1, h2, h3, h4⟩ := back (some (.goto t)) W3 hp.1
      exact ⟨_, _, h1, .inr ⟨rfl, .goto t, (hIx _).putObj _ hp.2 far h2 rfl, h3, h4⟩⟩
    | panic ch => exact hp.elim
    | outgrown => exact hp.elim
  · -- behind the iterator
    have far : D ≤ L := by show w.heap.size ≤ w.heap.size + 1; omega
    rintro e W2 ⟨⟨v, rfl⟩, (⟨hi, hl, hd⟩ | ⟨k, hk, c, hi, hl, hd⟩)⟩
    · exact ⟨none, _, run_endLoop (P := P) hl (by simp [rec0]), hdone D _ (Nat.le_refl _) (hI.putObj _ hi far hl rfl) ((World.putObj_heap_other (by show w.heap.size ≠ w.heap.size + 1; omega)).trans hd)⟩
    · exact ⟨some c, _, run_endLoop (P := P) hl (by simp), hstop D c k _ (Nat.le_refl _) hk ((hIx c).putObj _ hi far hl rfl) ((World.putObj_heap_other (by show w.heap.size ≠ w.heap.size + 1; omega)).trans hd)⟩

/-! ### New blocks, and what is owned through a round -/
theorem new_at (w : World) (o : Obj) (k : Nat) (h : k = w.heap.size) : (w.alloc o).heap[k]? = some o := by subst h; exact heap_alloc_new w o
theorem new_past (w : World) (o : Obj) (k : Nat) (h : k < w.heap.size) : (w.alloc o).heap[k]? = w.heap[k]? := Below.heap_alloc w o k h
theorem new1 (w : World) (o0 : Obj) : (w.alloc o0).heap[w.heap.size]? = some o0 ∧ (w.alloc o0).heap.size = w.heap.size + 1 ∧ Below w.heap.size w (w.alloc o0) :=
  ⟨new_at _ _ _ rfl, by simp, (Below.refl _ w).alloc (Nat.le_refl _) _⟩
theorem new2 (w : World) (o0 o1 : Obj) : ((w.alloc o0).alloc o1).heap[w.heap.size]? = some o0 ∧ ((w.alloc o0).alloc o1).heap[w.heap.size + 1]? = some o1 ∧ ((w.alloc o0).alloc o1).heap.size = w.heap.size + 2 ∧ Below w.heap.size w ((w.alloc o0).alloc o1) := by
  obtain ⟨h0, hs, hb⟩ := new1 w o0
  refine ⟨(new_past _ _ _ (by omega)).trans h0, new_at _ _ _ hs.symm, by simp, hb.alloc (by omega) _⟩
theorem new3 (w : World) (o0 o1 o2 : Obj) : (((w.alloc o0).alloc o1).alloc o2).heap[w.heap.size]? = some o0 ∧ (((w.alloc o0).alloc o1).alloc o2).heap[w.heap.size + 1]? = some o1 ∧ (((w.alloc o0).alloc o1).alloc o2).heap[w.heap.size + 2]? = some o2 ∧
    (((w.alloc o0).alloc o1).alloc o2).heap.size = w.heap.size + 3 ∧ Below w.heap.size w (((w.alloc o0).alloc o1).alloc o2) := by
  obtain ⟨h0, h1, hs, hb⟩ := new2 w o0 o1
  refine ⟨(new_past _ _ _ (by omega)).trans h0, (new_past _ _ _ (by omega)).trans h1, new_at _ _ _ hs.symm, by simp, hb.alloc (by omega) _⟩
theorem new4 (w : World) (o0 o1 o2 o3 : Obj) : ((((w.alloc o0).alloc o1).alloc o2).alloc o3).heap[w.heap.size]? = some o0 ∧ ((((w.alloc o0).alloc o1).alloc o2).alloc o3).heap[w.heap.size + 1]? = some o1 ∧ ((((w.alloc o0).alloc o1).alloc o2).alloc o3).heap[w.heap.size + 2]? = some o2 ∧
    ((((w.alloc o0).alloc o1).alloc o2).alloc o3).heap[w.heap.size + 3]? = some o3 ∧ ((((w.alloc o0).alloc o1).alloc o2).alloc o3).heap.size = w.heap.size + 4 ∧ Below w.heap.size w ((((w.alloc o0).alloc o1).alloc o2).alloc o3) := by
  obtain ⟨h0, h1, h2, hs, hb⟩ := new3 w o0 o1 o2
  refine ⟨(new_past _ _ _ (by omega)).trans h0, (new_past _ _ _ (by omega)).trans h1, (new_past _ _ _ (by omega)).trans h2, new_at _ _ _ hs.symm, by simp, hb.alloc (by omega) _⟩

theorem blk_own {B : Nat} {W W' : World} {row : Option Nat} (hg : W.grownBy W' row) (hr : ∀ r, row = some r → B ≤ r ∧ ∃ o : Obj, W.heap[r]? = some o ∧ o.isCells = false) {b : Nat} {cs : Array Value} {t : TypeId} {fr : Nat × Nat}
    (h : W.heap[b]? = some (.cells cs t fr)) : W'.heap[b]? = some (.cells cs t fr) := (grownBy_keeps_cells hg (fun r e => (hr r e).2) h rfl).trans h

theorem own_pure {B : Nat} (p : Nat → Prop) : OwnFrom B (fun k (_ : World) => p k) := fun _ _ _ _ h _ _ => h
theorem own_blk {B b : Nat} (f : Nat → Array Value) (t : TypeId) : OwnFrom B (fun k W => W.heap[b]? = some (.cells (f k) t (0, 0))) := fun _ _ _ _ h hg hr => blk_own hg hr h
theorem own_upd {B : Nat} {S : Nat → Prop} {w0 : World} (hB : w0.heap.size ≤ B) : OwnFrom B (fun (_ : Nat) W => Upd S w0 W) :=
  fun _ _ _ _ h hg hr => h.grown hg (fun k e hk => by have := (hr k e).1; omega)

theorem one_setCell_other {w : World} {b : Nat} {o : Option Obj} (h : w.heap[b]? = o) {a : Addr} (hn : b ≠ a.block) (u : Value) : (w.setCell a u).heap[b]? = o := (Below.heap_setCell w a u b hn).trans h
theorem putObj_other {w : World} {b D : Nat} {o : Option Obj} (h : w.heap[b]? = o) (hn : b ≠ D) (x : Obj) : (w.putObj D x).heap[b]? = o := (World.putObj_heap_other hn).trans h
theorem Upd.putObj {S : Nat → Prop} {a w : World} (h : Upd S a w) {D : Nat} (hD : a.heap.size ≤ D) (x : Obj) : Upd S a (w.putObj D x) :=
  h.grown (grownBy_putObj' w D x) (fun k e hk => by cases e; omega)

/-- Q, but False at a panic: for a drawn region in a function that leaves with a mark. -/
def NoP (Q : Exit → Act → World → Prop) : Exit → Act → World → Prop
  | .panic _, _, _ => False
  | e, a, w => Q e a w
theorem NoP.normal {Q : Exit → Act → World → Prop} {a : Act} {w : World} (h : Q .normal a w) : NoP Q .normal a w := h
theorem wpIn_region_noP {F : Fence} {n : Nat} {P : Program} {id : Nat} {ops : Array Oper} {b : Bool} {Q : Exit → Act → World → Prop} {a : Act} {w : World} (h : (Code.region id ops b).wpIn F n P (NoP Q) a w) : (Code.region id ops b).wpIn F n P Q a w :=
  wpIn_mono h (fun e a w hq => by cases e <;> first | exact hq | exact (hq : False).elim)
end Go.Proofs.Ytpnnmcicpjebmaa
