/-
  CONTRACT of the laws' alike.
-/
import Derived.Test.YtibgfeammjliiaaFlsS
import Derived.Deep.RegionWith
set_option linter.unusedSimpArgs false
set_option linter.unusedVariables false
namespace Go.Proofs.Ytibgfeammjliiaa
open Go.RowKit
attribute [local go_sem] Oper.semAt_some

theorem str_lax {w : World} {g n c : Nat} {l : List UInt8} (h : Lax w 5 1 (.slice (some ⟨g, 0, none⟩) n c) n (zv (bytesI l))) (hn : l.length = n) :
    (convert 22 9 (.slice (some ⟨g, 0, none⟩) n c)).run Try.prog w = .ok (.string ⟨l.toArray⟩) w := by
  subst hn
  exact string06 (fun j hj => by
    rw [Addr.add_lit, Nat.zero_add]
    apply h.cell
    unfold zv bytesI
    rw [List.getElem?_map, List.getElem?_map, List.getElem?_eq_getElem hj]
    rfl)
theorem Lax.drewN {w : World} {e size n : Nat} {v : Value} {xs : List Value} (h : Lax w e size v n xs) (N : Nat) : Lax (w.drewN N) e size v n xs :=
  h.upd ((Upd.refl (fun _ => False) w).drewN N) (fun _ _ h => h)

set_option maxRecDepth 100000 in
set_option maxHeartbeats 8000000 in
theorem alike_ok (l : List UInt8) (B g n c R rg rc : Nat) (wv rwv : Value) (ws : List Int) (most : Int) (off : Bool) (ahead mask ops ahead' mask' : Int) (w : World)
    (hF : Fls w B (.slice (some ⟨g, 0, none⟩) n c) wv (bytesI l) ws most off ahead mask ops) (hR : RFls w R (.slice (some ⟨rg, 0, none⟩) n rc) rwv (bytesI l) ws most off ahead' mask' ops)
    (hn : n = l.length) (h0 : 0 < n) (h8 : n ≤ 8192) (hm : 0 ≤ most ∧ most ≤ 9223372036854775807) (hw : ∀ z ∈ ws, 0 ≤ z ∧ z ≤ most) (hws : ws.length ≤ 8) :
    Calls Try.prog 25 #[.pointer (some ⟨B, 0, none⟩), .pointer (some ⟨R, 0, none⟩)] w fun e w' => e = .returned (.bool true) ∧ Below w.heap.size w w' := by
  have HF := Lib.hid hF
  have HR := Lib.hid hR
  have HN := Lib.hid (And.intro hn (And.intro hm hw))
  obtain ⟨ra, rac, rfl, _, hrc, hrm⟩ := hR.2.2.shape
  clear hF hR hn hm hw
  go_enter Try.func25, Try.ntmps25
  go_wp2_with fail
  refine (bytes_any B g n c _ (bytesI l) _ _ _ _ _ _ w HF.out (by rw [bytesI_length]; exact HN.out.1) h0 h8).mono ?_
  rintro e w1 ⟨v, rfl, ga, ca, rfl, hga, hown, hb1⟩
  rw [bytesI_length, ← HN.out.1] at hown ⊢
  have HLA := Lib.hid (Lax.of_own hown)
  have HF1 := Lib.hid (HF.out.below hb1)
  have HR1 := Lib.hid (HR.out.below hb1)
  have HB1 := Lib.hid hb1
  have HGA := Lib.hid hga
  have HLR : Hid (Lax w1 5 1 (.slice (some ⟨rg, 0, none⟩) n rc) n (zv (bytesI l))) := by
    have := HR1.out.2.1
    rw [bytesI_length, ← HN.out.1] at this
    exact this
  have QL := Lib.hid (fun nq => ((len_any B _ _ _ _ _ _ _ _ _ _ (HF1.out.drewN nq)).mono fun _ _ h => (⟨h.1, h.2.symm⟩ : _ ∧ _)))
  have QS := Lib.hid (fun nq => ((sectors_any B _ _ _ _ _ _ _ _ _ _ (HF1.out.drewN nq)).mono fun _ _ h => (⟨h.1, h.2.symm⟩ : _ ∧ _)))
  have QO := Lib.hid (fun nq => ((on_any B _ _ _ _ _ _ _ _ _ _ (HF1.out.drewN nq)).mono fun _ _ h => (⟨h.1, h.2.symm⟩ : _ ∧ _)))
  have QP := Lib.hid (fun nq => ((ops_any B _ _ _ _ _ _ _ _ _ _ (HF1.out.drewN nq)).mono fun _ _ h => (⟨h.1, h.2.symm⟩ : _ ∧ _)))
  rw [bytesI_length, ← HN.out.1] at QL
  have S1 := fun nq => str_lax (HLA.out.drewN nq) HN.out.1.symm
  have S2 := fun nq => str_lax (HLR.out.drewN nq) HN.out.1.symm
  obtain ⟨c0, c1, c2, c3, c4, c5, c6⟩ := cells7 HR1.out.1
  have HNE : Hid (B ≠ ga ∧ (∀ j, (Value.slice (some ⟨g, 0, none⟩) n c).ownBlock = some j → j ≠ ga) ∧ (∀ j, wv.ownBlock = some j → j ≠ ga) ∧ R ≠ ga ∧ (∀ j, (Value.slice (some ⟨rg, 0, none⟩) n rc).ownBlock = some j → j ≠ ga) ∧ (∀ j, (Value.slice ra ws.length rac).ownBlock = some j → j ≠ ga)) := by
    have e1 := HF.out.lt
    have e2 := lt_of_block HR.out.1
    exact ⟨by omega, fun j hj => by have := (HF.out.2.1.lt j hj).1; omega, fun j hj => by have := (HF.out.2.2.lt j hj).1; omega, by omega, fun j hj => by have := (HR.out.2.1.lt j hj).1; omega, fun j hj => by have := (HR.out.2.2.lt j hj).1; omega⟩
  clear hga hown hb1 HF HR
  go_wp2_with fail
  go_quiet ((first | (go_at_call 26; exact Calls.quiet_of_same (QL.out _)) | (go_at_call 27; exact Calls.quiet_of_same (QS.out _)) | (go_at_call 19; exact Calls.quiet_of_same (QO.out _)) | (go_at_call 28; exact Calls.quiet_of_same (QP.out _))))
  go_wp2_with fail
  clear QL QS QO QP S1 S2
  go_loopg [6, 7] (ws.length + 2) (fun gg ok i wr => ∃ k N : Nat, ∃ z : Int, k ≤ ws.length + 2 ∧ gg = ws.length + 2 - k ∧ ok = .bool true ∧ i = .int .i64 z ∧ z = (k : Int) - 1 ∧ wr = w1.drewN N)
  case atStart => exact ⟨0, nq, -1, by omega, by omega, rfl, rfl, by omega, rfl⟩
  case round =>
    obtain ⟨k, N, z, hk, hgk, rfl, rfl, hz, rfl⟩ := hrel
    have HG := Lib.hid hgk
    have HZ := Lib.hid hz
    have hz1 : -1 ≤ z := by omega
    have hz2 : z ≤ 9 := by omega
    by_cases hks : z ≤ (ws.length : Int)
    · have hk2 : k + 1 ≤ ws.length + 2 := by omega
      clear hz hgk
      go_wp2_with fail
      refine (worn_any B _ _ _ ws _ _ _ _ _ z (w1.drewN N) (HF1.out.drewN N)).mono ?_
      rintro e w2 ⟨rfl, rfl⟩
      go_wp2_with fail
      refine (rworn_any R _ _ _ ws _ _ _ _ _ z (w1.drewN N) (HR1.out.drewN N)).mono ?_
      rintro e w2 ⟨rfl, rfl⟩
      go_wp2_with fail
      refine (left_q B _ _ _ ws most _ _ _ _ z (w1.drewN N) (HF1.out.drewN N) HN.out.2.1 HN.out.2.2).mono ?_
      rintro e w2 ⟨rfl, m2, rfl⟩
      go_wp2_with fail
      refine (rleft_q R _ _ _ ws most _ _ _ _ z _ (HR1.out.drewN (N + m2)) HN.out.2.1 HN.out.2.2).mono ?_
      rintro e w2 ⟨rfl, m3, rfl⟩
      go_wp2_with fail
      go_roundg (ws.length + 2 - (k + 1))
      case measure => have := HG.out; omega
      case rel => exact ⟨k + 1, N + m2 + m3, z + 1, by omega, rfl, rfl, by go_num, by have := HZ.out; omega, by simp [World.drewN_drewN, Nat.add_assoc]⟩
    · have hks2 : (ws.length : Int) < z := by omega
      clear hz hgk hks
      go_wp2_with fail
      refine (spoil_upd (bytesI l) ga n ca (w1.drewN N) (by rw [bytesI_length]; exact HN.out.1.symm) (by omega) (HLA.out.drewN N)).mono ?_
      rintro e w2 ⟨rfl, hU2⟩
      have hlts := HF1.out.lt
      have hap := HF1.out.apart
      have hUU : Upd (fun i => i = ga) w1 w2 := ((Upd.refl _ w1).drewN N).trans hU2 (fun _ _ h => h)
      have hgaw := HGA.out
      have hFB := HB1.out
      have HF2 : Hid (Fls w2 B (.slice (some ⟨g, 0, none⟩) n c) wv (bytesI l) ws most off ahead mask ops) := HF1.out.upd hUU (fun e => HNE.out.1 e) (fun j hj e => HNE.out.2.1 j hj e) (fun j hj e => HNE.out.2.2.1 j hj e)
      have HR2 : Hid (RFls w2 R (.slice (some ⟨rg, 0, none⟩) n rc) (.slice ra ws.length rac) (bytesI l) ws most off ahead' mask' ops) := HR1.out.upd hUU (fun e => HNE.out.2.2.2.1 e) (fun j hj e => HNE.out.2.2.2.2.1 j hj e) (fun j hj e => HNE.out.2.2.2.2.2 j hj e)
      have HB2 := Lib.hid (belowU HB1.out hUU (fun i e => by rw [e]; exact HGA.out) (Nat.le_refl _))
      have HLR2 : Hid (Lax w2 5 1 (.slice (some ⟨rg, 0, none⟩) n rc) n (zv (bytesI l))) := by
        have := HR2.out.2.1
        rw [bytesI_length, ← HN.out.1] at this
        exact this
      obtain ⟨k0, k1, k2, k3, k4, k5, k6⟩ := cells7 HR2.out.1
      clear hU2 hUU hlts hap hgaw hFB c0 c1 c2 c3 c4 c5 c6
      have hby : Hid (∀ W', (∃ N, W' = w2.drewN N) → Calls Try.prog 17 #[.pointer (some ⟨B, 0, none⟩)] W' fun e w' => ∃ g3 c3, e = .returned (.slice (some ⟨g3, 0, none⟩) n c3) ∧
          (convert 22 9 (.slice (some ⟨g3, 0, none⟩) n c3)).run Try.prog w' = .ok (.string ⟨l.toArray⟩) w' ∧ w'.cell? ⟨R, 0, none⟩ = some (.slice (some ⟨rg, 0, none⟩) n rc) ∧ (convert 22 9 (.slice (some ⟨rg, 0, none⟩) n rc)).run Try.prog w' = .ok (.string ⟨l.toArray⟩) w' ∧ Below w.heap.size w w') := by
        rintro W' ⟨N', rfl⟩
        refine (bytes_any B g n c _ (bytesI l) _ _ _ _ _ _ _ (HF2.out.drewN N') (by rw [bytesI_length]; exact HN.out.1) h0 h8).mono ?_
        rintro e w3 ⟨v, rfl, g3, c3, rfl, _, hown3, hb3⟩
        rw [bytesI_length, ← HN.out.1] at hown3 ⊢
        have hU3 : Upd (fun _ => False) w2 w3 := ((Upd.refl _ w2).drewN N').trans (Upd.ofBelow' hb3) (fun _ _ h => h)
        have hR3 := HR2.out.upd hU3 (fun h => h) (fun _ _ h => h) (fun _ _ h => h)
        have hL3 := hR3.2.1
        rw [bytesI_length, ← HN.out.1] at hL3
        exact ⟨g3, c3, rfl, str_lax (Lax.of_own hown3) HN.out.1.symm, (cells7 hR3.1).1, str_lax hL3 HN.out.1.symm, belowU HB2.out hU3 (fun _ h => h.elim) (Nat.le_refl _)⟩
      have s3 : (convert 22 9 (.slice (some ⟨rg, 0, none⟩) n rc)).run Try.prog w2.drew = .ok (.string ⟨l.toArray⟩) w2.drew := str_lax (HLR2.out.drewN 1) HN.out.1.symm
      go_wp2_with fail
      go_region_with (go_at_call 17; refine (hby.out _ ⟨1, rfl⟩).mono ?_; rintro e w3 ⟨g3, c3, rfl, hv3, hc3, hs3, hb3⟩)
      all_goals (go_wp2_with fail; go_ret; exact ⟨rfl, by assumption⟩)
end Go.Proofs.Ytibgfeammjliiaa
