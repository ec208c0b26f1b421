/-
  CONTRACT of the references' Spoil (only the row's own block turns); what holds between the operations of EmcyPlays.
-/
import Derived.Test.YtlhbgikgaoeciaaEmcU
import Derived.Test.YtlhbgikgaoeciaaSpoil
import Derived.Test.YtlhbgikgaoeciaaRegW
set_option linter.unusedSimpArgs false
set_option linter.unusedVariables false
namespace Go.Proofs.Ytlhbgikgaoeciaa
open Go.RowKit
attribute [local go_sem] Oper.semAt_some

/-- A cell of a row is stored. -/
theorem Lax.stored {w : World} {e g n c : Nat} {xs : List Value} (h : Lax w e 1 (.slice (some ⟨g, 0, none⟩) n c) n xs) (j : Nat) (hj : j < n) (u : Value) : Lax (w.setCell ⟨g, j, none⟩ u) e 1 (.slice (some ⟨g, 0, none⟩) n c) n (xs.set j u) := by
  refine ⟨by rw [List.length_set]; exact h.1, ?_⟩
  rcases h.2 with ⟨h0, _⟩ | ⟨g', cap, cur, e1, hh, h1, h2, h3, h4⟩
  · cases h0
  · cases e1
    refine .inr ⟨g, c, cur.setIfInBounds j u, rfl, hset hh j u, h1, h2, by simpa using h3, ?_⟩
    rw [Array.toList_setIfInBounds, List.take_set, h4]
theorem Lax.free {w : World} {e size g n c : Nat} {xs : List Value} (h : Lax w e size (.slice (some ⟨g, 0, none⟩) n c) n xs) (o : Nat) : w.frozen? ⟨g, o, none⟩ = false ∧ g < w.heap.size := by
  rcases h.2 with ⟨h0, _⟩ | ⟨g', cap, cur, e1, hh, _⟩
  · cases h0
  · cases e1; exact ⟨free_of hh o, lt_of_block hh⟩


set_option maxRecDepth 100000 in
set_option maxHeartbeats 2000000 in
theorem spoil_upd (zs : List Int) (g n cap : Nat) (w : World) (hn : zs.length = n) (hl : n ≤ 1000000) (h : Lax w 5 1 (.slice (some ⟨g, 0, none⟩) n cap) n (zv zs)) :
    Calls Try.prog 23 #[.slice (some ⟨g, 0, none⟩) n cap] w fun e w' => e = .returned (.tuple #[]) ∧ Upd (fun i => i = g) w w' := by
  have HO := Lib.hid h
  have HN := Lib.hid hn
  have hnc : n ≤ cap := by
    obtain ⟨_, _, es, _, hac, _⟩ := h.shape
    injection es with _ _ ec
    omega
  have hcm : cap ≤ maxLen := by
    obtain ⟨_, _, es, _, _, hcm⟩ := h.shape
    injection es with _ _ ec
    omega
  have HC := Lib.hid hcm
  clear h hn hcm
  go_enter Try.func23, Try.ntmps23
  go_wp2_with fail
  go_loopg [2] n (fun gg i wr => ∃ k : Nat, k ≤ n ∧ gg = n - k ∧ i = .int .i64 k ∧ Upd (fun i => i = g) w wr ∧ ∃ ys, Lax wr 5 1 (.slice (some ⟨g, 0, none⟩) n cap) n (zv ys) ∧ ys.length = n)
  case atStart => exact ⟨0, by omega, by omega, rfl, Upd.refl _ _, zs, HO.out, HN.out⟩
  case round =>
    obtain ⟨k, hk, hgk, rfl, hB, ys, hown, hy⟩ := hrel
    have HG := Lib.hid hgk
    have HB := Lib.hid hB
    have HO := Lib.hid hown
    have HY := Lib.hid hy
    clear hgk hB hown
    by_cases hkn : k < n
    · have d1 : (k : Int) < (n : Int) := by omega
      obtain ⟨z, hz⟩ : ∃ z, ys[k]? = some z := ⟨_, List.getElem?_eq_getElem (by omega)⟩
      have hc := HO.out.cell (j := k) (u := .int .u8 z) (by simp [zv, hz])
      obtain ⟨hf, _⟩ := HO.out.free k
      clear hz hy
      go_wp2_with fail
      go_roundg (n - (k + 1))
      case measure => have := HG.out; omega
      case rel =>
        refine ⟨k + 1, by omega, rfl, by go_num, HB.out.setCell (p := ⟨g, k, none⟩) (fun _ => rfl) _, ys.set k (bits .xor .u8 z 90), ?_, by rw [List.length_set]; exact HY.out⟩
        rw [← zv_set]
        exact HO.out.stored k hkn _
    · obtain rfl : k = n := by omega
      clear hy
      have HOA := Lib.hid (fun o => HO.out.upd ((Upd.refl (fun _ => False) wr).alloc o) (fun _ _ h => h))
      have HM := Lib.hid (show k + 1 ≤ maxLen ∧ (k + 1) * 1 ≤ 140737488355328 by unfold maxLen; omega)
      have C1 : Hid (∀ j u, ([.int .u8 99] : List Value)[j]? = some u → (wr.alloc (.cells #[.int .u8 99] 5)).cell? ((⟨wr.heap.size, 0, none⟩ : Addr).add j) = some u) := by
        intro i u hu
        rw [Addr.add_lit, Nat.zero_add]
        match i, hu with
        | 0, hu => simp at hu; subst hu; exact cells1 (heap_alloc_new _ _)
      have C2 : Hid (∀ u ∈ ([.int .u8 99] : List Value), u.oneCell' = true) := by intro u hu; simp at hu; subst hu; rfl
      go_wp2_with (at_builtin; refine wpList_append_lax rfl (.tmp 17) (.tmp 18) 47 rfl 5 (.int .u8 0) 1 1 Try.underlying47 info_sp rfl (by decide) _ _ _ rfl (HOA.out _) ⟨wr.heap.size, 0, none⟩ 1 1 [.int .u8 99] rfl (by simp) C1.out C2.out (by decide) HM.out.1 HM.out.2 ?_)
      intro g' cap' w1 hown' hg hor
      have hU : Upd (fun i => i = g) w w1 := (HB.out.alloc _).grown hg (fun i e _ => by cases e; rfl)
      have hor2 : g' < w.heap.size → g' = g := fun h => by
        rcases hor with e | e
        · cases e; rfl
        · have := HB.out.size; have h2 : wr.heap.size ≤ g' := by rw [e]; simp
          omega
      have hyk : (zv ys).length = k := by simp [zv]; exact HY.out
      have hc : w1.cell? ⟨g', k, none⟩ = some (.int .u8 99) := by
        refine hown'.cell ?_
        rw [List.getElem?_append_right (by omega), hyk, Nat.sub_self]; rfl
      obtain ⟨hf, _⟩ := hown'.free k
      have HU := Lib.hid hU
      have HR := Lib.hid hor2
      have hkk : (k : Int) + 1 - 1 = (k : Int) := by omega
      clear hU hg hown' hyk hor hor2
      go_wp2_with fail
      go_end0
      exact ⟨rfl, HU.out.setCell (p := ⟨g', k, none⟩) HR.out _⟩


/-- Between the operations. -/
def PlS (w : World) (n : Int) (B R : Nat) (av hv cv xv rv : Value) (fs : List (Int × Int)) (hs : List Int) (wr : World) : Prop :=
  Emc wr B (128 + n) av hv fs hs ∧ REm wr R n cv xv rv fs hs ∧ (∀ p ∈ fs, bitC p.1 ≠ 0) ∧ fs.length ≤ 64 ∧ hs.length ≤ 4 ∧ Below w.heap.size w wr ∧
    (w.heap.size ≤ B ∧ w.heap.size ≤ R) ∧ (∀ j, av.ownBlock = some j → w.heap.size ≤ j) ∧ (∀ j, cv.ownBlock = some j → w.heap.size ≤ j) ∧ (∀ j, xv.ownBlock = some j → w.heap.size ≤ j)
def PlI (w : World) (n : Int) (B R : Nat) (wr : World) : Prop := ∃ av hv cv xv rv fs hs, PlS w n B R av hv cv xv rv fs hs wr
theorem Emc.up {S : Nat → Prop} {w w' : World} {b : Nat} {id : Int} {av hv : Value} {fs : List (Int × Int)} {hs : List Int} (h : Emc w b id av hv fs hs) (hu : Upd S w w') (h1 : ¬ S b) (h2 : ∀ j, av.ownBlock = some j → ¬ S j) (h3 : ∀ j, hv.ownBlock = some j → ¬ S j) : Emc w' b id av hv fs hs :=
  ⟨hu.block_some h.1 h1, h.2.1.upd hu h2, h.2.2.upd hu h3⟩
section
variable {w wr w' : World} {n : Int} {B R : Nat} {av hv cv xv rv : Value} {fs : List (Int × Int)} {hs : List Int}
theorem PlS.below (h : PlS w n B R av hv cv xv rv fs hs wr) (hb : Below wr.heap.size wr w') : PlS w n B R av hv cv xv rv fs hs w' := by
  obtain ⟨h1, h2, h3, h4, h5, h6, h7⟩ := h
  exact ⟨h1.below hb, h2.below hb, h3, h4, h5, h6.trans (hb.mono h6.size), h7⟩
/-- Blocks of these types are not touched. -/
theorem PlS.upd {S : Nat → Prop} (h : PlS w n B R av hv cv xv rv fs hs wr) (hu : Upd S wr w') (hS : ∀ k cs t, wr.heap[k]? = some (.cells cs t (0, 0)) → t = 62 ∨ t = 64 ∨ t = 45 ∨ t = 41 ∨ t = 3 → ¬ S k) (hlo : ∀ k, S k → w.heap.size ≤ k) : PlS w n B R av hv cv xv rv fs hs w' := by
  obtain ⟨h1, h2, h3, h4, h5, h6, h7⟩ := h
  have key : ∀ (e size m : Nat) (v : Value) (xs : List Value), Lax wr e size v m xs → (e = 62 ∨ e = 64 ∨ e = 45 ∨ e = 41 ∨ e = 3) → ∀ j, v.ownBlock = some j → ¬ S j := by
    intro e size m v xs hL he j hj
    obtain ⟨_, cur, hc⟩ := hL.lt j hj
    exact hS j _ _ hc he
  exact ⟨h1.up hu (hS _ _ _ h1.1 (.inl rfl)) (key _ _ _ _ _ h1.2.1 (by simp)) (key _ _ _ _ _ h1.2.2 (by simp)),
    h2.upd hu (hS _ _ _ h2.1 (by simp)) (key _ _ _ _ _ h2.2.1 (by simp)) (key _ _ _ _ _ h2.2.2.1 (by simp)) (key _ _ _ _ _ h2.2.2.2.1 (by simp)), h3, h4, h5, belowU h6 hu hlo (Nat.le_refl _), h7⟩
end

/-- What a call of both answers: nothing, or one frame that is alike. -/
def Told (w0 wr : World) (a b : Value) : Prop :=
  (a = .slice none 0 0 ∧ b = .slice none 0 0) ∨
  ∃ g1 g2 lo id x r i, a = .slice (some ⟨g1, 0, none⟩) 1 1 ∧ b = .slice (some ⟨g2, 0, none⟩) 1 1 ∧ x < 65536 ∧ EmF wr lo g1 id (x : Nat) r i ∧ EmF wr lo g2 id (x : Nat) r i ∧ w0.heap.size ≤ lo ∧ w0.heap.size ≤ g1 ∧ w0.heap.size ≤ g2
end Go.Proofs.Ytlhbgikgaoeciaa
