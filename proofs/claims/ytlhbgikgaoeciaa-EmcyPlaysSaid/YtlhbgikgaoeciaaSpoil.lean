/-
  CONTRACT of the references' Spoil: it changes nothing below the row that it is given.
-/
import Derived.Test.YtlhbgikgaoeciaaChecked
import Derived.Test.YtlhbgikgaoeciaaKit
import Derived.Test.YtlhbgikgaoeciaaAid
import Derived.Laws.AppendOwnNone
import Derived.Laws.OwnMore
import Derived.Handy
import Derived.Deep.Light
import Derived.Deep.LoopGhost
set_option linter.unusedSimpArgs false
set_option linter.unusedVariables false
namespace Go.Proofs.Ytlhbgikgaoeciaa
open Go.RowKit
attribute [local go_sem] Oper.semAt_some

theorem info_sp : (Try.prog.info? 5).map (fun i => (i.zero, i.size, i.bytes)) = some (some (.int .u8 0), 1, 1) := by kernel_rfl
/-- Integers as bytes' cells. -/
def zv (zs : List Int) : List Value := zs.map (Value.int .u8)
theorem zv_set (zs : List Int) (k : Nat) (z : Int) : (zv zs).set k (.int .u8 z) = zv (zs.set k z) := by unfold zv; rw [List.map_set]

set_option maxRecDepth 100000 in
set_option maxHeartbeats 2000000 in
theorem spoil_any (zs : List Int) (v : Value) (base : Nat) (w : World) (hl : zs.length ≤ 1000000) (h : w.ownsRow base 5 1 v zs.length (zv zs)) (hbase : base ≤ w.heap.size) :
    Calls Try.prog 23 #[v] w fun e w' => e = .returned (.tuple #[]) ∧ Below base w w' := by
  obtain ⟨n, hn⟩ : ∃ n, zs.length = n := ⟨_, rfl⟩
  rw [hn] at h hl
  obtain ⟨a, cap, rfl⟩ : ∃ a cap, v = .slice a n cap := by
    rcases h.2 with ⟨rfl, rfl⟩ | ⟨g, cap, cur, rfl, _⟩
    · exact ⟨none, 0, rfl⟩
    · exact ⟨_, cap, rfl⟩
  have HO := Lib.hid h
  have HN := Lib.hid hn
  clear h hn
  go_enter Try.func23, Try.ntmps23
  go_wp2_with fail
  go_loopg [2] n (fun gg i wr => ∃ k : Nat, k ≤ n ∧ gg = n - k ∧ i = .int .i64 k ∧ Below base w wr ∧ ∃ ys, wr.ownsRow base 5 1 (.slice a n cap) n (zv ys) ∧ ys.length = n)
  case atStart => exact ⟨0, by omega, by omega, rfl, Below.refl _ _, zs, HO.out, HN.out⟩
  case round =>
    obtain ⟨k, hk, hgk, rfl, hB, ys, hown, hy⟩ := hrel
    have HG := Lib.hid hgk
    have HB := Lib.hid hB
    have HO := Lib.hid hown
    have HY := Lib.hid hy
    have hws := hB.size
    clear hgk hB hown
    by_cases hkn : k < n
    · have d1 : (k : Int) < (n : Int) := by omega
      obtain ⟨g, cap', hsl, hg0, hgl⟩ := own_shape HO.out (by omega)
      injection hsl with e1 _ e3
      subst e1 e3
      have hc := HO.out.cellAt k (by omega)
      have hf := HO.out.frozenAt k
      obtain ⟨z, hz⟩ : ∃ z, ys[k]? = some z := ⟨_, List.getElem?_eq_getElem (by omega)⟩
      rw [show (zv ys)[k]? = some (.int .u8 z) from by simp [zv, hz]] at hc
      clear hz hy
      go_wp2_with fail
      go_roundg (n - (k + 1))
      case measure => have := HG.out; omega
      case rel =>
        refine ⟨k + 1, by omega, rfl, by go_num, HB.out.setCell (by simpa using hg0) _, ys.set k (bits .xor .u8 z 90), ?_, by rw [List.length_set]; exact HY.out⟩
        rw [← zv_set]
        exact (HO.out.stored k _).1
    · obtain rfl : k = n := by omega
      clear hy
      go_wp2_with (at_builtin; refine wpList_append_any rfl (.tmp 17) (.tmp 18) 47 rfl base 5 (.int .u8 0) 1 1 Try.underlying47 info_sp rfl (by decide) _ _ _ rfl (HO.out.alloc _) (some ⟨wr.heap.size, 0, none⟩) 1 1 [.int .u8 99] rfl (fun h => by cases h) (by simp) ?c1 ?c2 ?c3 ?c4 ?c5 ?_)
      case c1 =>
        intro ad e i x hx
        cases e
        have hnew : (wr.alloc (.cells #[.int .u8 99] 5)).heap[wr.heap.size]? = some (.cells #[.int .u8 99] 5 (0, 0)) := heap_alloc_new _ _
        rw [Addr.add_lit, Nat.zero_add]
        match i, hx with
        | 0, hx => simp at hx; subst hx; exact cells1 hnew
      case c2 => intro x hx; simp at hx; subst hx; rfl
      case c3 => unfold maxLen; omega
      case c4 => omega
      case c5 => simp; omega
      intro v' w1 hown' hg
      have hU : Upd (base ≤ ·) w w1 := ((Upd.ofBelow HB.out).alloc _).grown hg (fun i e _ => (HO.out.lt i e).1)
      obtain ⟨g', cap', rfl, hg0, hgl⟩ := own_shape hown' (by omega)
      have hyk : (zv ys).length = k := by simp [zv]; exact HY.out
      have hc : w1.cell? ⟨g', k, none⟩ = some (.int .u8 99) := by
        rw [hown'.cellAt k (by omega), List.getElem?_append_right (by omega), hyk, Nat.sub_self]; rfl
      have hf := hown'.frozenAt k
      have HU := Lib.hid hU
      have hkk : (k : Int) + 1 - 1 = (k : Int) := by omega
      clear hU hg hown' hyk
      go_wp2_with fail
      go_end0
      exact ⟨rfl, (HU.out.setCell (p := ⟨g', k, none⟩) (fun _ => hg0) _).toBelow hbase (fun i hi hs => by omega)⟩
end Go.Proofs.Ytlhbgikgaoeciaa
