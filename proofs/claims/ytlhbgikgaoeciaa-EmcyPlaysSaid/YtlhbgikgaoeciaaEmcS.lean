/-
  CONTRACT of the references' Raise where it takes the error.
-/
import Derived.Test.YtlhbgikgaoeciaaEmcQ
set_option linter.unusedSimpArgs false
set_option linter.unusedVariables false
namespace Go.Proofs.Ytlhbgikgaoeciaa
open Go.RowKit
attribute [local go_sem] Oper.semAt_some

theorem info3 : (Try.prog.info? 3).map (fun i => (i.zero, i.size, i.bytes)) = some (some (.int .i64 0), 1, 8) := by kernel_rfl
theorem info45' : (Try.prog.info? 45).map (fun i => (i.zero, i.size, i.bytes)) = some (some (.int .u32 0), 1, 4) := by kernel_rfl

/-- .. codes and infos apart. -/
def RE2 (w : World) (R : Nat) (node : Int) (cv xv hv : Value) (cs xs hs : List Int) : Prop :=
  w.heap[R]? = some (.cells #[.int .i64 node, cv, xv, hv] 41 (0, 0)) ∧ Lax w 3 1 cv cs.length (nv cs) ∧ Lax w 3 1 xv xs.length (nv xs) ∧ Lax w 45 1 hv hs.length (uv hs) ∧
    (∀ j, cv.ownBlock = some j → xv.ownBlock ≠ some j)
theorem lax_ty {w : World} {e size n k t : Nat} {v : Value} {xs : List Value} {cs : Array Value} (h : Lax w e size v n xs) (hk : v.ownBlock = some k) (hc : w.heap[k]? = some (.cells cs t (0, 0))) : t = e := by
  obtain ⟨_, cur, hcur⟩ := h.lt k hk
  rw [hcur] at hc
  injection hc with hc
  injection hc with _ e2
  exact e2.symm
section
variable {w w1 w' : World} {R : Nat} {node : Int} {cv xv hv v : Value} {cs xs hs l : List Int}
theorem REm.to2 {fs : List (Int × Int)} (h : REm w R node cv xv hv fs hs) : RE2 w R node cv xv hv (fs.map (·.1)) (fs.map (·.2)) hs :=
  ⟨h.1, by rw [List.length_map]; exact h.2.1, by rw [List.length_map]; exact h.2.2.1, h.2.2.2.1, h.2.2.2.2⟩
theorem RE2.toR {fs : List (Int × Int)} (h : RE2 w R node cv xv hv (fs.map (·.1)) (fs.map (·.2)) hs) : REm w R node cv xv hv fs hs := by
  obtain ⟨h1, h2, h3, h4, h5⟩ := h
  rw [List.length_map] at h2 h3
  exact ⟨h1, h2, h3, h4, h5⟩
theorem RE2.upd {S : Nat → Prop} (h : RE2 w R node cv xv hv cs xs hs) (hu : Upd S w w') (h1 : ¬ S R) (h2 : ∀ j, cv.ownBlock = some j → ¬ S j) (h3 : ∀ j, xv.ownBlock = some j → ¬ S j) (h4 : ∀ j, hv.ownBlock = some j → ¬ S j) : RE2 w' R node cv xv hv cs xs hs :=
  ⟨hu.block_some h.1 h1, h.2.1.upd hu h2, h.2.2.1.upd hu h3, h.2.2.2.1.upd hu h4, h.2.2.2.2⟩
theorem RE2.below (h : RE2 w R node cv xv hv cs xs hs) (hb : Below w.heap.size w w') : RE2 w' R node cv xv hv cs xs hs :=
  h.upd (Upd.ofBelow' (S := fun _ => False) hb) (fun x => x) (fun _ _ x => x) (fun _ _ x => x) (fun _ _ x => x)
theorem RE2.ne (h : RE2 w R node cv xv hv cs xs hs) : (∀ j, cv.ownBlock = some j → j ≠ R) ∧ (∀ j, xv.ownBlock = some j → j ≠ R) ∧ (∀ j, hv.ownBlock = some j → j ≠ R) :=
  ⟨fun j hj e => by subst e; exact absurd (lax_ty h.2.1 hj h.1) (by decide), fun j hj e => by subst e; exact absurd (lax_ty h.2.2.1 hj h.1) (by decide), fun j hj e => by subst e; exact absurd (lax_ty h.2.2.2.1 hj h.1) (by decide)⟩
theorem RE2.hne (h : RE2 w R node cv xv hv cs xs hs) : ∀ j, hv.ownBlock = some j → cv.ownBlock ≠ some j ∧ xv.ownBlock ≠ some j := fun j hj => by
  obtain ⟨_, cur, hc⟩ := h.2.2.2.1.lt j hj
  exact ⟨fun e => absurd (lax_ty h.2.1 e hc) (by decide), fun e => absurd (lax_ty h.2.2.1 e hc) (by decide)⟩
theorem RE2.lt (h : RE2 w R node cv xv hv cs xs hs) : R < w.heap.size := lt_of_block h.1

/-- The codes' row is set anew. -/
theorem RE2.set1 (h : RE2 w R node cv xv hv cs xs hs) (hu : Upd (fun k => cv.ownBlock = some k) w w1) (hL : Lax w1 3 1 v l.length (nv l)) (hor : ∀ j, v.ownBlock = some j → cv.ownBlock = some j ∨ w.heap.size ≤ j) :
    RE2 (w1.setCell ⟨R, 1, none⟩ v) R node v xv hv l xs hs := by
  obtain ⟨n1, n2, n3⟩ := h.ne
  have hR := hu.block_some h.1 (fun e => n1 _ e rfl)
  have hS := (Upd.refl (· = R) w1).setCell (p := ⟨R, 1, none⟩) (fun _ => rfl) v
  have hv1 : ∀ j, v.ownBlock = some j → j ≠ R := fun j hj e => by subst e; exact absurd (lax_ty hL hj hR) (by decide)
  refine ⟨hset hR 1 v, hL.upd hS hv1, (h.2.2.1.upd hu (fun j hj e => h.2.2.2.2 j e hj)).upd hS n2, (h.2.2.2.1.upd hu (fun j hj e => (h.hne j hj).1 e)).upd hS n3, fun j hj e => ?_⟩
  rcases hor j hj with h1 | h1
  · exact h.2.2.2.2 j h1 e
  · have := (h.2.2.1.lt j e).1; omega
theorem RE2.set2 (h : RE2 w R node cv xv hv cs xs hs) (hu : Upd (fun k => xv.ownBlock = some k) w w1) (hL : Lax w1 3 1 v l.length (nv l)) (hor : ∀ j, v.ownBlock = some j → xv.ownBlock = some j ∨ w.heap.size ≤ j) :
    RE2 (w1.setCell ⟨R, 2, none⟩ v) R node cv v hv cs l hs := by
  obtain ⟨n1, n2, n3⟩ := h.ne
  have hR := hu.block_some h.1 (fun e => n2 _ e rfl)
  have hS := (Upd.refl (· = R) w1).setCell (p := ⟨R, 2, none⟩) (fun _ => rfl) v
  have hv1 : ∀ j, v.ownBlock = some j → j ≠ R := fun j hj e => by subst e; exact absurd (lax_ty hL hj hR) (by decide)
  refine ⟨hset hR 2 v, (h.2.1.upd hu (fun j hj e => h.2.2.2.2 j hj e)).upd hS n1, hL.upd hS hv1, (h.2.2.2.1.upd hu (fun j hj e => (h.hne j hj).2 e)).upd hS n3, fun j hj e => ?_⟩
  rcases hor j e with h1 | h1
  · exact h.2.2.2.2 j hj h1
  · have := (h.2.1.lt j hj).1; omega
theorem RE2.set3 (h : RE2 w R node cv xv hv cs xs hs) (hL : Lax w 45 1 v l.length (uv l)) :
    RE2 (w.setCell ⟨R, 3, none⟩ v) R node cv xv v cs xs l := by
  obtain ⟨n1, n2, n3⟩ := h.ne
  have hS := (Upd.refl (· = R) w).setCell (p := ⟨R, 3, none⟩) (fun _ => rfl) v
  have hv1 : ∀ j, v.ownBlock = some j → j ≠ R := fun j hj e => by subst e; exact absurd (lax_ty hL hj h.1) (by decide)
  exact ⟨hset h.1 3 v, h.2.1.upd hS n1, h.2.2.1.upd hS n2, hL.upd hS hv1, h.2.2.2.2⟩
end

theorem C1any (k : IntKind) (t : TypeId) (x : Int) (W : World) : ∀ j u, ([.int k x] : List Value)[j]? = some u → (W.alloc (.cells #[.int k x] t)).cell? ((⟨W.heap.size, 0, none⟩ : Addr).add j) = some u := by
  intro i u hu
  rw [Addr.add_lit, Nat.zero_add]
  match i, hu with
  | 0, hu => simp at hu; subst hu; exact cells1 (heap_alloc_new _ _)
theorem C2any (k : IntKind) (x : Int) : ∀ u ∈ ([.int k x] : List Value), u.oneCell' = true := by intro u hu; simp at hu; subst hu; rfl

set_option maxRecDepth 100000 in
set_option maxHeartbeats 8000000 in
theorem rraise_yes (R : Nat) (node : Int) (cv xv hv : Value) (fs : List (Int × Int)) (hs : List Int) (x i : Nat) (w : World) (h : REm w R node cv xv hv fs hs) (hnode : 1 ≤ node ∧ node ≤ 127) (hk : rsOk fs x i) (hh : hs.length ≤ 4) (hf : fs.length ≤ 1000) :
    Calls Try.prog 15 #[.pointer (some ⟨R, 0, none⟩), .int .i64 (x : Int), .int .i64 (i : Int)] w fun e w' => ∃ g cv' xv' hv', e = .returned (.slice (some ⟨g, 0, none⟩) 1 1) ∧ w.heap.size ≤ g ∧ EmF w' w.heap.size g (128 + node) x (regC (fs ++ [((x : Int), (i : Int))])) i ∧
      REm w' R node cv' xv' hv' (fs ++ [((x : Int), (i : Int))]) ((((x + 65536 * i : Nat) : Int) :: hs).take 4) ∧ Upd (fun k => k = R ∨ cv.ownBlock = some k ∨ xv.ownBlock = some k) w w' ∧
      (∀ k, cv'.ownBlock = some k → cv.ownBlock = some k ∨ w.heap.size ≤ k) ∧ (∀ k, xv'.ownBlock = some k → xv.ownBlock = some k ∨ w.heap.size ≤ k) := by
  have HB := Lib.hid (rbit_any (x : Int) w)
  have HF := Lib.hid (rfind_any R node cv xv hv fs hs (x : Int) (i : Int) w h)
  obtain ⟨k1, ⟨k2, k3⟩, k4, k5⟩ := hk
  have e : findZ fs ((x : Int), (i : Int)) = -1 := by unfold findZ; rw [if_neg k4]
  rw [e] at HF
  have hxb := bitC_pos k1
  have b1 : (bitC (x : Int) == 0) = false := beq_eq_false_iff_ne.2 k1
  have b2 : decide ((i : Int) < 0) = false := decide_eq_false (by omega)
  have b3 : decide ((255 : Int) < (i : Int)) = false := decide_eq_false (by omega)
  have b5 : ((fs.length : Int) == 64) = false := beq_eq_false_iff_ne.2 (by omega)
  have HE := Lib.hid h.to2
  have hcl := h.2.1
  obtain ⟨a, ac, rfl, _, hac, hcm⟩ := hcl.shape
  obtain ⟨a2, ac2, rfl, _, hac2, hcm2⟩ := h.2.2.1.shape
  obtain ⟨ha, hc, rfl, _, hhc, hhm⟩ := h.2.2.2.1.shape
  have HLC := Lib.hid (fun o => hcl.upd ((Upd.refl (fun _ => False) w).alloc o) (fun _ _ h => h))
  have HM := Lib.hid (show fs.length + 1 ≤ maxLen ∧ (fs.length + 1) * 8 ≤ 140737488355328 by unfold maxLen; omega)
  obtain ⟨c0, c1, c2, c3⟩ := cells4 h.1
  have HK := Lib.hid (And.intro hnode (And.intro hxb (And.intro k3 hh)))
  have hx64 : (x : Int) ≤ 65535 := hxb.2
  clear h k1 k2 k3 k4 k5 e hcl hxb hnode
  go_enter Try.func15, Try.ntmps15
  go_wp2_with fail
  refine HB.out.mono ?_
  rintro e w1 ⟨rfl, rfl⟩
  go_wp2_with fail
  refine HF.out.mono ?_
  rintro e w1 ⟨rfl, rfl⟩
  go_wp2_with (at_builtin; refine wpList_append_lax rfl (.tmp 39) (.tmp 41) 39 rfl 3 (.int .i64 0) 1 8 Try.underlying39 info3 rfl (by decide) _ _ _ rfl (HLC.out _) ⟨w.heap.size, 0, none⟩ 1 1 [.int .i64 (x : Int)] rfl (by simp) (C1any .i64 3 (x : Int) w) (C2any .i64 (x : Int)) (by decide) HM.out.1 HM.out.2 ?_)
  intro g1 cap1 w1 hown1 hg1 hor1
  have hU1 : Upd (fun k => (Value.slice a fs.length ac).ownBlock = some k) w w1 := ((Upd.refl _ w).alloc _).grown hg1 (fun i e _ => e)
  have hor1' : ∀ j, (Value.slice (some ⟨g1, 0, none⟩) (fs.length + 1) cap1).ownBlock = some j → (Value.slice a fs.length ac).ownBlock = some j ∨ w.heap.size ≤ j := fun j hj => by
    have e : g1 = j := Option.some.inj hj
    subst e
    rcases hor1 with h | h
    · exact .inl h
    · right; rw [h]; simp
  have hL1 : Lax w1 3 1 (.slice (some ⟨g1, 0, none⟩) (fs.length + 1) cap1) (fs.map (·.1) ++ [(x : Int)]).length (nv (fs.map (·.1) ++ [(x : Int)])) := by
    rw [nv_append]
    have : (fs.map (·.1) ++ [(x : Int)]).length = fs.length + 1 := by simp
    rw [this]
    exact hown1
  have hE1 := HE.out.set1 hU1 hL1 hor1'
  have hR1 := hU1.block_some HE.out.1 (fun e => HE.out.ne.1 _ e rfl)
  obtain ⟨p0, p1, p2, p3⟩ := cells4 hR1
  have f1 := free_of hR1 1
  have HE1 := Lib.hid hE1
  have HUU1 : Hid (Upd (fun k => k = R ∨ (Value.slice a fs.length ac).ownBlock = some k) w (w1.setCell ⟨R, 1, none⟩ (.slice (some ⟨g1, 0, none⟩) (fs.length + 1) cap1))) := (hU1.mono (fun _ _ h => .inr h)).setCell (p := ⟨R, 1, none⟩) (fun _ => .inl rfl) _
  have HOR1 := Lib.hid hor1'
  clear hown1 hg1 hor1 hU1 hor1' hL1 hE1 hR1 c0 c1 c2 c3
  obtain ⟨W2, hW2⟩ : ∃ W2, w1.setCell ⟨R, 1, none⟩ (.slice (some ⟨g1, 0, none⟩) (fs.length + 1) cap1) = W2 := ⟨_, rfl⟩
  rw [hW2] at HE1 HUU1
  obtain ⟨q0, q1, q2, q3⟩ := cells4 HE1.out.1
  have HLX := Lib.hid (fun o => HE1.out.2.2.1.upd ((Upd.refl (fun _ => False) W2).alloc o) (fun _ _ h => h))
  rw [List.length_map] at HLX
  go_wp2_with (at_builtin; refine wpList_append_lax rfl (.tmp 49) (.tmp 51) 39 rfl 3 (.int .i64 0) 1 8 Try.underlying39 info3 rfl (by decide) _ _ _ rfl (HLX.out _) ⟨W2.heap.size, 0, none⟩ 1 1 [.int .i64 (i : Int)] rfl (by simp) (C1any .i64 3 (i : Int) W2) (C2any .i64 (i : Int)) (by decide) HM.out.1 HM.out.2 ?_)
  intro g3 cap3 w3 hown3 hg3 hor3
  clear hW2 p0 p1 p2 p3 q0 q1 q2 q3
  have hU3 : Upd (fun k => (Value.slice a2 fs.length ac2).ownBlock = some k) W2 w3 := ((Upd.refl _ W2).alloc _).grown hg3 (fun i e _ => e)
  have hor3' : ∀ j, (Value.slice (some ⟨g3, 0, none⟩) (fs.length + 1) cap3).ownBlock = some j → (Value.slice a2 fs.length ac2).ownBlock = some j ∨ W2.heap.size ≤ j := fun j hj => by
    have e : g3 = j := Option.some.inj hj
    subst e
    rcases hor3 with h | h
    · exact .inl h
    · right; rw [h]; simp
  have hL3 : Lax w3 3 1 (.slice (some ⟨g3, 0, none⟩) (fs.length + 1) cap3) (fs.map (·.2) ++ [(i : Int)]).length (nv (fs.map (·.2) ++ [(i : Int)])) := by
    rw [nv_append]
    have : (fs.map (·.2) ++ [(i : Int)]).length = fs.length + 1 := by simp
    rw [this]
    exact hown3
  have hE3 := HE1.out.set2 hU3 hL3 hor3'
  have hR3 := hU3.block_some HE1.out.1 (fun e => HE1.out.ne.2.1 _ e rfl)
  obtain ⟨p0, p1, p2, p3⟩ := cells4 hR3
  have f2 := free_of hR3 2
  obtain ⟨W4, hW4⟩ : ∃ W4, w3.setCell ⟨R, 2, none⟩ (.slice (some ⟨g3, 0, none⟩) (fs.length + 1) cap3) = W4 := ⟨_, rfl⟩
  have HUU4 : Hid (Upd (fun k => k = R ∨ (Value.slice a fs.length ac).ownBlock = some k ∨ (Value.slice a2 fs.length ac2).ownBlock = some k) w W4) := by
    rw [← hW4]
    exact ((HUU1.out.mono (fun _ _ h => h.imp (fun h => h) .inl)).trans hU3 (fun _ _ h => .inr (.inr h))).setCell (p := ⟨R, 2, none⟩) (fun _ => .inl rfl) _
  have HSZ := Lib.hid HUU1.out.size
  have HOR3 := Lib.hid (fun j hj => (hor3' j hj).imp (fun h => h) (fun h => Nat.le_trans HSZ.out h))
  rw [hW4] at hE3
  have HE4 := Lib.hid hE3
  obtain ⟨q0, q1, q2, q3⟩ := cells4 HE4.out.1
  clear hown3 hg3 hor3 hU3 hor3' hL3 hE3 hR3 HE1 HUU1 HLX HE HLC
  have em : fs.map (·.1) ++ [(x : Int)] = (fs ++ [((x : Int), (i : Int))]).map (·.1) := by simp
  have em2 : fs.map (·.2) ++ [(i : Int)] = (fs ++ [((x : Int), (i : Int))]).map (·.2) := by simp
  rw [em, em2] at HE4
  clear em em2
  have hR4 := Lib.hid HE4.out.1
  have dn : (x : Int) + 65536 * (i : Int) = ((x + 65536 * i : Nat) : Int) := by omega
  have hnb : ((x + 65536 * i : Nat) : Int) < 4294967296 := by have := HK.out; omega
  obtain ⟨z, hz⟩ : ∃ z : Nat, x + 65536 * i = z := ⟨_, rfl⟩
  rw [hz] at dn hnb
  have HZ := Lib.hid hz
  have hi256 : (i : Int) ≤ 255 := by have := HK.out; omega
  clear hz
  have hlt4 := lt_of_block hR4.out
  have HN4 : Hid (RE2 (W4.alloc (.cells #[.int .u32 (z : Int)] 45)) R node (.slice (some ⟨g1, 0, none⟩) (fs.length + 1) cap1) (.slice (some ⟨g3, 0, none⟩) (fs.length + 1) cap3) (.slice ha hs.length hc) ((fs ++ [((x : Int), (i : Int))]).map (·.1)) ((fs ++ [((x : Int), (i : Int))]).map (·.2)) hs) := HE4.out.below ((Below.refl _ W4).alloc (Nat.le_refl _) _)
  go_wp2_with fail
  clear hW4 p0 p1 p2 p3 q0 q1 q2 q3
  have HL0 : Hid (Lax (W4.alloc (.cells #[.int .u32 (z : Int)] 45)) 45 1 (.slice (some ⟨W4.heap.size, 0, none⟩) 1 1) 1 (uv [(z : Int)])) :=
    ⟨rfl, .inr ⟨W4.heap.size, 1, _, rfl, heap_alloc_new _ _, by omega, by unfold maxLen; omega, by simp, rfl⟩⟩
  go_loopg [7, 8] 3 (fun gg v i wr => ∃ k : Nat, k ≤ 3 ∧ k ≤ hs.length ∧ gg = 3 - k ∧ i = .int .i64 (k : Int) ∧ Below W4.heap.size W4 wr ∧ ∃ g5 cap5, v = .slice (some ⟨g5, 0, none⟩) (k + 1) cap5 ∧ W4.heap.size ≤ g5 ∧ Lax wr 45 1 (.slice (some ⟨g5, 0, none⟩) (k + 1) cap5) (k + 1) (uv ((z : Int) :: hs.take k)))
  case atStart => exact ⟨0, by omega, by omega, by omega, rfl, (Below.refl _ W4).alloc (Nat.le_refl _) _, W4.heap.size, 1, rfl, Nat.le_refl _, HL0.out⟩
  case round =>
    obtain ⟨k, hk3, hkl, hgk, rfl, hB, g5, cap5, rfl, hg5, hL⟩ := hrel
    have HG := Lib.hid hgk
    have HB := Lib.hid hB
    have HL := Lib.hid hL
    have HG5 := Lib.hid hg5
    have HEr := Lib.hid (HE4.out.below hB)
    obtain ⟨p0, p1, p2, p3⟩ := cells4 HEr.out.1
    clear hgk hB hL hg5 HL0
    by_cases hks : k < hs.length ∧ k < 3
    · obtain ⟨hk1, hk2⟩ := hks
      have d1 : (k : Int) < (hs.length : Int) := by omega
      have d2 : (k : Int) < 3 := by omega
      obtain ⟨gh, rfl⟩ := HEr.out.2.2.2.1.at0 (by omega)
      obtain ⟨y, hy⟩ : ∃ y, hs[k]? = some y := ⟨_, List.getElem?_eq_getElem hk1⟩
      have cy := HEr.out.2.2.2.1.cell (j := k) (u := .int .u32 y) (by unfold uv; rw [List.getElem?_map, hy]; rfl)
      have HY := Lib.hid (show uv ((z : Int) :: hs.take (k + 1)) = uv ((z : Int) :: hs.take k) ++ [.int .u32 y] by
        obtain ⟨hk', e⟩ := List.getElem?_eq_some_iff.1 hy
        rw [List.take_succ_eq_append_getElem hk', e]
        simp [uv])
      have HLA := Lib.hid (fun o => HL.out.upd ((Upd.refl (fun _ => False) wr).alloc o) (fun _ _ h => h))
      have HM2 := Lib.hid (show k + 1 + 1 ≤ maxLen ∧ (k + 1 + 1) * 4 ≤ 140737488355328 by unfold maxLen; omega)
      clear hy
      go_wp2_with (at_builtin; refine wpList_append_lax rfl (.tmp 74) (.tmp 82) 32 rfl 45 (.int .u32 0) 1 4 Try.underlying32 info45' rfl (by decide) _ _ _ rfl (HLA.out _) ⟨wr.heap.size, 0, none⟩ 1 1 [.int .u32 y] rfl (by simp) (C1any .u32 45 y wr) (C2any .u32 y) (by decide) HM2.out.1 HM2.out.2 ?_)
      intro g6 cap6 w6 hown6 hg6 hor6
      have hge : W4.heap.size ≤ g6 := by
        rcases hor6 with e | e
        · cases e; exact HG5.out
        · have h2 : wr.heap.size ≤ g6 := by rw [e]; simp
          have := HB.out.size
          omega
      have HB6 := Lib.hid (belowU (HB.out.alloc HB.out.size (.cells #[.int .u32 y] 45)) ((Upd.refl (fun k => (Value.slice (some ⟨g5, 0, none⟩) (k + 1) cap5).ownBlock = some k ∨ k = g5) _).grown hg6 (fun i e _ => .inr (Option.some.inj e).symm)) (fun i e => by
        rcases e with e | e
        · have : g5 = i := Option.some.inj e
          rw [← this]; exact HG5.out
        · rw [e]; exact HG5.out) (Nat.le_refl _))
      rw [← HY.out] at hown6
      have HL6 := Lib.hid hown6
      have HGE := Lib.hid hge
      clear hown6 hg6 hor6 hge p0 p1 p2 p3
      go_wp2_with fail
      go_roundg (3 - (k + 1))
      case measure => have := HG.out; omega
      case rel => exact ⟨k + 1, by omega, by omega, rfl, by go_num, HB6.out, g6, cap6, rfl, HGE.out, HL6.out⟩
    · have hkk : hs.take k = hs.take 3 := by
        by_cases h3 : k = 3
        · rw [h3]
        · rw [List.take_of_length_le (by omega), List.take_of_length_le (by omega)]
      have hlen4 : ((z : Int) :: hs).take 4 = (z : Int) :: hs.take 3 := by simp
      have HEQ := Lib.hid (hkk.trans rfl)
      have HK4 := Lib.hid hlen4
      have hkn : Hid (k + 1 = (((z : Int) :: hs).take 4).length) := by
        show _ = _
        rw [hlen4, List.length_cons, ← hkk, List.length_take]
        omega
      have hLx : Lax wr 45 1 (.slice (some ⟨g5, 0, none⟩) (k + 1) cap5) (((z : Int) :: hs).take 4).length (uv (((z : Int) :: hs).take 4)) := by
        rw [← hkn.out, hlen4, ← hkk]
        exact HL.out
      have HE7 := Lib.hid (HEr.out.set3 hLx)
      have f3 := free_of HEr.out.1 3
      have HUU7 : Hid (Upd (fun k => k = R ∨ (Value.slice a fs.length ac).ownBlock = some k ∨ (Value.slice a2 fs.length ac2).ownBlock = some k) w (wr.setCell ⟨R, 3, none⟩ (.slice (some ⟨g5, 0, none⟩) (k + 1) cap5))) :=
        (HUU4.out.trans (Upd.ofBelow' (S := fun _ => False) HB.out) (fun _ _ h => h.elim)).setCell (p := ⟨R, 3, none⟩) (fun _ => .inl rfl) _
      have HFR := Lib.hid (rframe_any R node _ _ _ (fs ++ [((x : Int), (i : Int))]) _ x (i : Int) _ HE7.out.toR (by have := HK.out; omega) HK.out.1)
      have d3 : Hid (¬ ((k : Int) < (hs.length : Int) ∧ (k : Int) < 3)) := by show ¬ _; omega
      clear hkk hlen4 hLx
      by_cases h3 : k < hs.length
      · have d2 : decide ((k : Int) < 3) = false := decide_eq_false (by omega)
        have d1 : (k : Int) < (hs.length : Int) := by omega
        clear hks h3
        go_wp2_with fail
        refine HFR.out.mono ?_
        rintro e w8 ⟨g8, rfl, hg8, hF8, hb8⟩
        have HF8 := Lib.hid (And.intro hg8 (And.intro hF8 hb8))
        clear hg8 hF8 hb8
        go_wp2_with fail
        go_ret
        have hs7 := HUU7.out.size
        rw [HZ.out]
        exact ⟨g8, _, _, _, rfl, Nat.le_trans hs7 HF8.out.1, HF8.out.2.1.mono hs7, HE7.out.toR.below HF8.out.2.2, HUU7.out.trans (Upd.ofBelow' (S := fun _ => False) HF8.out.2.2) (fun _ _ h => h.elim), HOR1.out, HOR3.out⟩
      · have d1 : (hs.length : Int) ≤ (k : Int) := by omega
        clear hks
        go_wp2_with fail
        refine HFR.out.mono ?_
        rintro e w8 ⟨g8, rfl, hg8, hF8, hb8⟩
        have HF8 := Lib.hid (And.intro hg8 (And.intro hF8 hb8))
        clear hg8 hF8 hb8
        go_wp2_with fail
        go_ret
        have hs7 := HUU7.out.size
        rw [HZ.out]
        exact ⟨g8, _, _, _, rfl, Nat.le_trans hs7 HF8.out.1, HF8.out.2.1.mono hs7, HE7.out.toR.below HF8.out.2.2, HUU7.out.trans (Upd.ofBelow' (S := fun _ => False) HF8.out.2.2) (fun _ _ h => h.elim), HOR1.out, HOR3.out⟩
end Go.Proofs.Ytlhbgikgaoeciaa
