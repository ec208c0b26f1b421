/-
  CONTRACTS of the references' Clear.
-/
import Derived.Test.YtlhbgikgaoeciaaEmcS
set_option linter.unusedSimpArgs false
set_option linter.unusedVariables false
namespace Go.Proofs.Ytlhbgikgaoeciaa
open Go.RowKit
attribute [local go_sem] Oper.semAt_some

section
variable {w : World} {R : Nat} {node : Int} {cv xv hv v : Value} {cs xs hs l : List Int}
theorem RE2.put1 (h : RE2 w R node cv xv hv cs xs hs) (hL : Lax w 3 1 v l.length (nv l)) (hd : ∀ j, v.ownBlock = some j → xv.ownBlock ≠ some j) : RE2 (w.setCell ⟨R, 1, none⟩ v) R node v xv hv l xs hs := by
  obtain ⟨n1, n2, n3⟩ := h.ne
  have hS := (Upd.refl (· = R) w).setCell (p := ⟨R, 1, none⟩) (fun _ => rfl) v
  have hv1 : ∀ j, v.ownBlock = some j → j ≠ R := fun j hj e => by subst e; exact absurd (lax_ty hL hj h.1) (by decide)
  exact ⟨hset h.1 1 v, hL.upd hS hv1, h.2.2.1.upd hS n2, h.2.2.2.1.upd hS n3, hd⟩
theorem RE2.put2 (h : RE2 w R node cv xv hv cs xs hs) (hL : Lax w 3 1 v l.length (nv l)) (hd : ∀ j, cv.ownBlock = some j → v.ownBlock ≠ some j) : RE2 (w.setCell ⟨R, 2, none⟩ v) R node cv v hv cs l hs := by
  obtain ⟨n1, n2, n3⟩ := h.ne
  have hS := (Upd.refl (· = R) w).setCell (p := ⟨R, 2, none⟩) (fun _ => rfl) v
  have hv1 : ∀ j, v.ownBlock = some j → j ≠ R := fun j hj e => by subst e; exact absurd (lax_ty hL hj h.1) (by decide)
  exact ⟨hset h.1 2 v, h.2.1.upd hS n1, hL.upd hS hv1, h.2.2.2.1.upd hS n3, hd⟩
end

theorem rclear_no (R : Nat) (node : Int) (cv xv hv : Value) (fs : List (Int × Int)) (hs : List Int) (c i : Int) (w : World) (h : REm w R node cv xv hv fs hs) (hk : (c, i) ∉ fs) :
    Calls Try.prog 16 #[.pointer (some ⟨R, 0, none⟩), .int .i64 c, .int .i64 i] w fun e w' => e = .returned (.slice none 0 0) ∧ w = w' := by
  have HF := Lib.hid (rfind_any R node cv xv hv fs hs c i w h)
  have e : findZ fs (c, i) = -1 := by unfold findZ; rw [if_neg hk]
  rw [e] at HF
  clear h hk e
  go_enter Try.func16, Try.ntmps16
  go_wp2_with fail
  refine HF.out.mono ?_
  rintro e w1 ⟨rfl, rfl⟩
  go_wp2_with fail
  go_ret
  exact ⟨rfl, rfl⟩

theorem erase_snoc {α : Type} (l : List α) (j k : Nat) (x : α) (h : l[j]? = some x) : (l.take (j + 1)).eraseIdx k = if j = k then (l.take j).eraseIdx k else (l.take j).eraseIdx k ++ [x] := by
  obtain ⟨hj, rfl⟩ := List.getElem?_eq_some_iff.1 h
  rw [List.take_succ_eq_append_getElem hj]
  have hl : (l.take j).length = j := by rw [List.length_take]; omega
  by_cases e : j = k
  · subst e
    rw [if_pos rfl, List.eraseIdx_append_of_length_le (by omega), hl, Nat.sub_self]
    rw [List.eraseIdx_of_length_le (l := l.take j) (by omega)]
    simp
  · rw [if_neg e]
    by_cases h2 : k < j
    · rw [List.eraseIdx_append_of_lt_length (by omega)]
    · rw [List.eraseIdx_append_of_length_le (by omega), List.eraseIdx_of_length_le (l := l.take j) (by omega), List.eraseIdx_of_length_le (by simp; omega)]

set_option maxRecDepth 100000 in
set_option maxHeartbeats 8000000 in
theorem rclear_yes (R : Nat) (node : Int) (cv xv hv : Value) (fs : List (Int × Int)) (hs : List Int) (c i : Int) (w : World) (h : REm w R node cv xv hv fs hs) (hnode : 1 ≤ node ∧ node ≤ 127) (hk : (c, i) ∈ fs) (hf : fs.length ≤ 1000) :
    Calls Try.prog 16 #[.pointer (some ⟨R, 0, none⟩), .int .i64 c, .int .i64 i] w fun e w' => ∃ g cv' xv', e = .returned (.slice (some ⟨g, 0, none⟩) 1 1) ∧ w.heap.size ≤ g ∧ EmF w' w.heap.size g (128 + node) 0 (regC (fs.eraseIdx (fs.idxOf (c, i)))) i ∧
      REm w' R node cv' xv' hv (fs.eraseIdx (fs.idxOf (c, i))) hs ∧ Upd (fun k => k = R) w w' ∧ (∀ k, cv'.ownBlock = some k → w.heap.size ≤ k) ∧ (∀ k, xv'.ownBlock = some k → w.heap.size ≤ k) := by
  have HF := Lib.hid (rfind_any R node cv xv hv fs hs c i w h)
  have e : findZ fs (c, i) = (fs.idxOf (c, i) : Int) := by unfold findZ; rw [if_pos hk]
  rw [e] at HF
  have hq := idx_mem.2 hk
  generalize fs.idxOf (c, i) = q at *
  have d0 : (0 : Int) ≤ (q : Int) := by omega
  have HE := Lib.hid h.to2
  obtain ⟨a, ac, rfl, _, hac, hcm⟩ := h.2.1.shape
  obtain ⟨a2, ac2, rfl, _, hac2, hcm2⟩ := h.2.2.1.shape
  obtain ⟨c0, c1, c2, c3⟩ := cells4 h.1
  have HQ := Lib.hid hq
  have HN := Lib.hid hnode
  clear h hk e hq hnode
  go_enter Try.func16, Try.ntmps16
  go_wp2_with fail
  refine HF.out.mono ?_
  rintro e w1 ⟨rfl, rfl⟩
  go_wp2_with fail
  go_loopg [8, 9, 10] fs.length (fun gg va vb i wr => ∃ j : Nat, j ≤ fs.length ∧ gg = fs.length - j ∧ i = .int .i64 (j : Int) ∧ Below w.heap.size w wr ∧ Lax wr 3 1 va ((fs.take j).eraseIdx q).length (nv (((fs.take j).eraseIdx q).map (·.1))) ∧ Lax wr 3 1 vb ((fs.take j).eraseIdx q).length (nv (((fs.take j).eraseIdx q).map (·.2))) ∧
      (∀ j, va.ownBlock = some j → vb.ownBlock ≠ some j) ∧ (∀ j, va.ownBlock = some j → w.heap.size ≤ j) ∧ (∀ j, vb.ownBlock = some j → w.heap.size ≤ j))
  case atStart => exact ⟨0, by omega, by omega, rfl, Below.refl _ w, ⟨rfl, .inl ⟨rfl, rfl⟩⟩, ⟨rfl, .inl ⟨rfl, rfl⟩⟩, fun j hj => (by cases hj), fun j hj => (by cases hj), fun j hj => (by cases hj)⟩
  case round =>
    obtain ⟨j, hj, hgj, rfl, hB, hA, hBb, hdis, hna, hnb⟩ := hrel
    have HG := Lib.hid hgj
    have HB := Lib.hid hB
    have HA := Lib.hid hA
    have HBB := Lib.hid hBb
    have HD := Lib.hid (And.intro hdis (And.intro hna hnb))
    have HEr := Lib.hid (HE.out.below hB)
    obtain ⟨p0, p1, p2, p3⟩ := cells4 HEr.out.1
    clear hgj hB hA hBb hdis hna hnb c0 c1 c2 c3
    by_cases hjn : j < fs.length
    · have d1 : (j : Int) < (fs.length : Int) := by omega
      obtain ⟨p, hp⟩ : ∃ p, fs[j]? = some p := ⟨_, List.getElem?_eq_getElem hjn⟩
      have hsn := erase_snoc fs j q p hp
      by_cases hjq : j = q
      · have e1 : ((j : Int) == (q : Int)) = true := by rw [hjq]; exact beq_self_eq_true _
        have e2 : ((j : Int) != (q : Int)) = false := by rw [hjq]; simp
        rw [if_pos hjq] at hsn
        have HSN := Lib.hid hsn
        subst hjq
        clear hsn hp e1 e2
        go_wp2_with fail
        go_roundg (fs.length - (j + 1))
        case measure => have := HG.out; omega
        case rel => exact ⟨j + 1, by omega, rfl, by go_num, HB.out, by rw [HSN.out]; exact HA.out, by rw [HSN.out]; exact HBB.out, HD.out.1, HD.out.2.1, HD.out.2.2⟩
      · have e1 : ((j : Int) == (q : Int)) = false := beq_eq_false_iff_ne.2 (by omega)
        have e2 : ((j : Int) != (q : Int)) = true := bne_iff_ne.2 (by omega)
        have e3 : (j == q) = false := beq_eq_false_iff_ne.2 hjq
        have e4 : (j != q) = true := bne_iff_ne.2 hjq
        rw [if_neg hjq] at hsn
        have HSN := Lib.hid hsn
        obtain ⟨m, hm⟩ : ∃ m, ((fs.take j).eraseIdx q).length = m := ⟨_, rfl⟩
        have hmn : m ≤ 1000 := by rw [← hm]; have := List.length_eraseIdx_le (fs.take j) q; have := List.length_take_le j fs; omega
        have HMM := Lib.hid hm
        rw [hm] at HA HBB
        obtain ⟨ga, rfl⟩ := HEr.out.toR.2.1.at0 (by omega)
        obtain ⟨gb, rfl⟩ := HEr.out.toR.2.2.1.at0 (by omega)
        have q1 := HEr.out.toR.2.1.cell (nv_get _ j p.1 (by rw [List.getElem?_map, hp]; rfl))
        have q2 := HEr.out.toR.2.2.1.cell (nv_get _ j p.2 (by rw [List.getElem?_map, hp]; rfl))
        obtain ⟨x1, x2⟩ := p
        simp only at q1 q2 hsn HSN
        have HAA := Lib.hid (fun o => HA.out.upd ((Upd.refl (fun _ => False) wr).alloc o) (fun _ _ h => h))
        have HM := Lib.hid (show m + 1 ≤ maxLen ∧ (m + 1) * 8 ≤ 140737488355328 by unfold maxLen; omega)
        clear hsn hp hm hjq
        go_wp2_with (at_builtin; refine wpList_append_lax rfl (.tmp 29) (.tmp 37) 39 rfl 3 (.int .i64 0) 1 8 Try.underlying39 info3 rfl (by decide) _ _ _ rfl (HAA.out _) ⟨wr.heap.size, 0, none⟩ 1 1 [.int .i64 x1] rfl (by simp) (C1any .i64 3 x1 wr) (C2any .i64 x1) (by decide) HM.out.1 HM.out.2 ?_)
        intro g5 cap5 w5 hown5 hg5 hor5
        have hU5 : Upd (fun k => u8.ownBlock = some k) wr w5 := ((Upd.refl _ wr).alloc _).grown hg5 (fun i e _ => e)
        have hge5 : w.heap.size ≤ g5 := by
          rcases hor5 with e | e
          · exact HD.out.2.1 _ e
          · have h2 : wr.heap.size ≤ g5 := by rw [e]; simp
            have := HB.out.size
            omega
        have hdis5 : u9.ownBlock ≠ some g5 := fun e => by
          rcases hor5 with h | h
          · exact HD.out.1 _ h e
          · have h1 := (HBB.out.lt _ e).1
            have h2 : wr.heap.size ≤ g5 := by rw [h]; simp
            omega
        have HB5 := Lib.hid (belowU HB.out hU5 (fun i e => HD.out.2.1 _ e) (Nat.le_refl _))
        have HBB5 := Lib.hid (HBB.out.upd hU5 (fun j hj e => HD.out.1 j e hj))
        have HE5 := Lib.hid (HE.out.below HB5.out)
        have HL5 := Lib.hid hown5
        have HX5 := Lib.hid (And.intro hge5 hdis5)
        have hlt5 := (hown5.lt g5 rfl).1
        have HBBA := Lib.hid (fun o => HBB5.out.upd ((Upd.refl (fun _ => False) w5).alloc o) (fun _ _ h => h))
        obtain ⟨r0, r1, r2, r3⟩ := cells4 HE5.out.1
        have q2' : w5.cell? ⟨gb, j, none⟩ = some (.int .i64 x2) := hU5.cell_some q2 (fun e => by
          have h1 := HD.out.2.1 _ e
          have h2 := (HE.out.2.2.1.lt gb rfl).1
          simp at h1
          omega)
        clear hown5 hg5 hor5 hU5 hge5 hdis5 p0 p1 p2 p3 q1 q2
        go_wp2_with (at_builtin; refine wpList_append_lax rfl (.tmp 39) (.tmp 47) 39 rfl 3 (.int .i64 0) 1 8 Try.underlying39 info3 rfl (by decide) _ _ _ rfl (HBBA.out _) ⟨w5.heap.size, 0, none⟩ 1 1 [.int .i64 x2] rfl (by simp) (C1any .i64 3 x2 w5) (C2any .i64 x2) (by decide) HM.out.1 HM.out.2 ?_)
        intro g6 cap6 w6 hown6 hg6 hor6
        have hU6 : Upd (fun k => u9.ownBlock = some k) w5 w6 := ((Upd.refl _ w5).alloc _).grown hg6 (fun i e _ => e)
        have hge6 : w.heap.size ≤ g6 := by
          rcases hor6 with e | e
          · exact HD.out.2.2 _ e
          · have h2 : w5.heap.size ≤ g6 := by rw [e]; simp
            have := HB5.out.size
            omega
        have hdis6 : g6 ≠ g5 := fun e => by
          rcases hor6 with h | h
          · exact HX5.out.2 (by rw [h, e])
          · have h2 : w5.heap.size ≤ g6 := by rw [h]; simp
            omega
        have HB6 := Lib.hid (belowU HB5.out hU6 (fun i e => HD.out.2.2 _ e) (Nat.le_refl _))
        have HL6 := Lib.hid (HL5.out.upd hU6 (fun j hj e => by
          have e2 : g5 = j := Option.some.inj hj
          subst e2
          exact HX5.out.2 e))
        have HLB6 := Lib.hid hown6
        have HX6 := Lib.hid (And.intro hge6 hdis6)
        have el : ((fs.take j).eraseIdx q ++ [(x1, x2)]).length = m + 1 := by simp [HMM.out]
        have en1 : nv (((fs.take j).eraseIdx q ++ [(x1, x2)]).map (·.1)) = nv (((fs.take j).eraseIdx q).map (·.1)) ++ [.int .i64 x1] := by simp [nv]
        have en2 : nv (((fs.take j).eraseIdx q ++ [(x1, x2)]).map (·.2)) = nv (((fs.take j).eraseIdx q).map (·.2)) ++ [.int .i64 x2] := by simp [nv]
        have HEL := Lib.hid (And.intro el (And.intro en1 en2))
        clear hown6 hg6 hor6 hU6 hge6 hdis6 r0 r1 r2 r3 q2' el en1 en2 hlt5
        go_wp2_with fail
        go_roundg (fs.length - (j + 1))
        case measure => have := HG.out; omega
        case rel =>
          exact ⟨j + 1, by omega, rfl, by go_num, HB6.out, by rw [HSN.out, HEL.out.1, HEL.out.2.1]; exact HL6.out, by rw [HSN.out, HEL.out.1, HEL.out.2.2]; exact HLB6.out,
            fun j hj e => HX6.out.2 ((Option.some.inj e).trans (Option.some.inj hj).symm), fun j hj => (Option.some.inj hj) ▸ HX5.out.1, fun j hj => (Option.some.inj hj) ▸ HX6.out.1⟩
    · obtain rfl : j = fs.length := by omega
      rw [List.take_length] at HA HBB
      have f1 := free_of HEr.out.1 1
      have HP1 := Lib.hid (HEr.out.put1 (v := u8) (l := (fs.eraseIdx q).map (·.1)) (by rw [List.length_map]; exact HA.out) (fun j hj e => by
        have h1 := HD.out.2.1 j hj
        have h2 := (HE.out.2.2.1.lt j e).1
        omega))
      have f2 := free_of HP1.out.1 2
      have HP2 := Lib.hid (HP1.out.put2 (v := u9) (l := (fs.eraseIdx q).map (·.2)) (by
        rw [List.length_map]
        refine HBB.out.upd ((Upd.refl (· = R) _).setCell (p := ⟨R, 1, none⟩) (fun _ => rfl) u8) (fun j hj e => ?_)
        have h1 := HD.out.2.2 j hj
        have h2 := HE.out.lt
        omega) (fun j hj => HD.out.1 j hj))
      have HFR := Lib.hid (rframe_any R node _ _ _ (fs.eraseIdx q) hs 0 i _ HP2.out.toR (by omega) HN.out)
      have HU := Lib.hid ((((Upd.ofBelow' (S := (· = R)) HB.out).setCell (p := ⟨R, 1, none⟩) (fun _ => rfl) u8).setCell (p := ⟨R, 2, none⟩) (fun _ => rfl) u9))
      clear hjn
      obtain ⟨va, vc, e8, _⟩ := HA.out.shape
      obtain ⟨vb, vd, e9, _⟩ := HBB.out.shape
      subst e8 e9
      go_wp2_with fail
      refine HFR.out.mono ?_
      rintro e w8 ⟨g8, rfl, hg8, hF8, hb8⟩
      have HF8 := Lib.hid (And.intro hg8 (And.intro hF8 hb8))
      clear hg8 hF8 hb8
      go_wp2_with fail
      go_ret
      have hs7 := HU.out.size
      exact ⟨g8, _, _, rfl, Nat.le_trans hs7 HF8.out.1, HF8.out.2.1.mono hs7, HP2.out.toR.below HF8.out.2.2, HU.out.trans (Upd.ofBelow' (S := fun _ => False) HF8.out.2.2) (fun _ _ h => h.elim), HD.out.2.1, HD.out.2.2⟩
end Go.Proofs.Ytlhbgikgaoeciaa
