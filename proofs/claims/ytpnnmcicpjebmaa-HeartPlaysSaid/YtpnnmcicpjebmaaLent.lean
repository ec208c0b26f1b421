/-
  CONTRACTS of the references' helpers on bytes: Lent (a copy with one byte behind it), Kept (nothing was changed).
-/
import Derived.Test.YtpnnmcicpjebmaaChecked
import Derived.Test.YtpnnmcicpjebmaaKit
import Derived.Laws.AppendOwnNone
set_option linter.unusedSimpArgs false
set_option linter.unusedVariables false
namespace Go.Proofs.Ytpnnmcicpjebmaa
open Go.RowKit

theorem info_u8 : (Try.prog.info? 5).map (fun i => (i.zero, i.size, i.bytes)) = some (some (.int .u8 0), 1, 1) := by kernel_rfl

def bv (l : List UInt8) : List Value := l.map fun c => .int .u8 (c.toNat : Int)
theorem bv_length (l : List UInt8) : (bv l).length = l.length := by simp [bv]
theorem bv_append (l m : List UInt8) : bv (l ++ m) = bv l ++ bv m := by simp [bv]
theorem bv_one (l : List UInt8) : ∀ u ∈ bv l, u.oneCell' = true := by
  intro u hu; simp [bv] at hu; obtain ⟨c, _, rfl⟩ := hu; rfl
theorem bv_get (l : List UInt8) (i : Nat) (h : i < l.length) : (bv l)[i]? = some (.int .u8 (l[i].toNat : Int)) := by simp [bv, h]

theorem Bytes.news {w : World} {x : Addr} {l : List UInt8} (h : Bytes w (some x) l) : ∀ j u, (bv l)[j]? = some u → w.cell? (x.add j) = some u := by
  intro j u hj
  have hlt : j < l.length := by
    have := (List.getElem?_eq_some_iff.1 hj).1
    simpa [bv] using this
  rw [bv_get l j hlt] at hj
  cases hj
  rcases h with rfl | ⟨b, off, e, hc⟩
  · simp at hlt
  · cases e
    rw [Addr.add_lit]
    exact hc j hlt

/-- A row of the call's own that holds bytes reads as these bytes. -/
theorem bytes_of_own {w : World} {base g n cap : Nat} {l : List UInt8} (h : w.ownsRow base 5 1 (.slice (some ⟨g, 0, none⟩) n cap) n (bv l)) (m : List UInt8) (hm : m <+: l) : Bytes w (some ⟨g, 0, none⟩) m := by
  have hn : l.length = n := by have := h.1; simp [bv] at this; exact this
  refine .inr ⟨g, 0, rfl, fun i hi => ?_⟩
  obtain ⟨t, rfl⟩ := hm
  have hi2 : i < (m ++ t).length := by simp; omega
  rw [Nat.zero_add, h.cellAt i (by omega), bv_get _ i hi2]
  simp [List.getElem_append_left hi]

set_option maxRecDepth 100000 in
theorem string_of {w : World} {a : Option Addr} {cap : Nat} {l : List UInt8} (h : Bytes w a l) (hn : a = none → cap = 0) :
    (convert 22 9 (.slice a l.length cap)).run Try.prog w = .ok (.string ⟨l.toArray⟩) w := by
  cases a with
  | none =>
    rcases h with rfl | ⟨b, off, e, _⟩
    · rw [hn rfl]; rfl
    · cases e
  | some x =>
    refine run_convert_bytes_back (P := Try.prog) w 22 9 5 x cap l Try.underlying22 Try.underlying5 Try.underlying9 (fun j hj => ?_)
    exact h.news j _ (bv_get l j hj)

set_option maxHeartbeats 800000 in
theorem lent_any (l : List UInt8) (a : Option Addr) (cap : Nat) (w : World) (hl : l.length ≤ 70368744177664) (hB : Bytes w a l) (hn : a = none → cap = 0) :
    Calls Try.prog 20 #[.slice a l.length cap] w fun e w' => ∃ g cap', e = .returned (.slice (some ⟨g, 0, none⟩) l.length cap') ∧ w.heap.size ≤ g ∧
      w'.ownsRow w.heap.size 5 1 (.slice (some ⟨g, 0, none⟩) (l.length + 1) cap') (l.length + 1) (bv (l ++ [77])) ∧ Below w.heap.size w w' := by
  have hown0 := World.ownsRow_nil w w.heap.size 5 1
  have hnil : a = none → l.length = 0 ∧ cap = 0 := fun h => ⟨by rcases hB with rfl | ⟨_, _, e, _⟩ <;> simp_all, hn h⟩
  have hnews : ∀ ad, a = some ad → ∀ j u, (bv l)[j]? = some u → w.cell? (ad.add j) = some u := fun ad h => by subst h; exact hB.news
  have H1 := Lib.hid hnil
  have H2 := Lib.hid hnews
  have H3 := Lib.hid hB
  have H4 := Lib.hid hn
  clear hnil hnews hB hn
  go_enter Try.func20, Try.ntmps20
  go_wp2_with (at_builtin; refine wpList_append_any rfl (.tmp 4) (.tmp 5) 22 rfl w.heap.size 5 (.int .u8 0) 1 1 Try.underlying22 info_u8 rfl (by decide) _ _ _ rfl hown0 a l.length cap (bv l) rfl H1.out (by simp [bv]) H2.out (bv_one l) (by unfold maxLen; omega) (by omega) (Nat.le_refl _) ?_)
  intro v1 w1 hown1 hg1
  try simp only [Nat.zero_add, List.nil_append] at hown1
  have hb1 := (Below.refl w.heap.size w).grown hg1 (Nat.le_refl _) (fun k e => by simp [Value.ownBlock] at e)
  have hsz := hb1.size
  clear hown0
  go_wp2_with (at_builtin; refine wpList_append_any rfl (.tmp 7) (.tmp 8) 22 rfl w.heap.size 5 (.int .u8 0) 1 1 Try.underlying22 info_u8 rfl (by decide) _ _ _ rfl (hown1.alloc _) (some ⟨w1.heap.size, 0, none⟩) 1 1 (bv [77]) rfl (fun h => by cases h) (by simp [bv]) (fun ad e => by cases e; exact cell_one_new _ _ _) (bv_one _) (by unfold maxLen; omega) (by omega) (by simp; omega) ?_)
  intro v2 w2 hown2 hg2
  obtain ⟨g, cap', rfl, hg0, hg3⟩ := own_shape hown2 (by omega)
  have hcap := own_cap hown2
  have hb2 := hb1.trans ((Below.refl w.heap.size w1).alloc hsz _) |>.grown hg2 (by simp; omega) (fun k e => (hown1.lt k e).1)
  have HH := Lib.hid hown2
  clear hown1 hown2 hg1 hg2
  go_wp2
  go_ret
  exact ⟨g, cap', rfl, hg0, by rw [bv_append]; exact HH.out, hb2⟩

set_option maxHeartbeats 800000 in
theorem kept_any (l : List UInt8) (a : Option Addr) (cap : Nat) (g cap' base : Nat) (w : World) (hl : l.length ≤ 70368744177664) (hB : Bytes w a l) (hn : a = none → cap = 0)
    (hown : w.ownsRow base 5 1 (.slice (some ⟨g, 0, none⟩) (l.length + 1) cap') (l.length + 1) (bv (l ++ [77]))) :
    Calls Try.prog 23 #[.slice (some ⟨g, 0, none⟩) l.length cap', .slice a l.length cap] w fun e w' => e = .returned (.bool true) ∧ w = w' := by
  have s1 := string_of (cap := cap') (bytes_of_own hown l ⟨[77], rfl⟩) (fun h => by cases h)
  have s2 := string_of hB hn
  have hc : w.cell? ⟨g, l.length, none⟩ = some (.int .u8 77) := by
    rw [hown.cellAt l.length (by omega), bv_get _ l.length (by simp)]
    simp
  have hcap := own_cap hown
  clear hown hn hB
  go_enter Try.func23, Try.ntmps23
  go_wp2_with fail
  go_ret
  exact ⟨rfl, rfl⟩
end Go.Proofs.Ytpnnmcicpjebmaa
