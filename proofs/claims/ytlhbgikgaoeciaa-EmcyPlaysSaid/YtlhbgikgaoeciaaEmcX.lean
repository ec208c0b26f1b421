/-
  LAW EmcyPlays: the walk.
-/
import Derived.Test.YtlhbgikgaoeciaaEmcW
import Derived.Deep.CutRange
import Derived.Deep.CutBlock
import Derived.Deep.RegionHeld3
set_option linter.unusedSimpArgs false
set_option linter.unusedVariables false
namespace Go.Proofs.Ytlhbgikgaoeciaa
open Go.RowKit
attribute [local go_sem] Oper.semAt_some

theorem told_all {w0 wr : World} {a b : Value} (h : Told w0 wr a b) (W : World) (hb : Below wr.heap.size wr W) : Calls Try.prog 18 #[a, b] W fun e w' => e = .returned (.bool true) ∧ Below W.heap.size W w' := by
  rcases h with ⟨rfl, rfl⟩ | ⟨g1, g2, lo, id, x, r, i, rfl, rfl, hx, h1, h2, _⟩
  · exact (all_nil W).mono fun _ _ h => ⟨h.1, by rw [← h.2]; exact Below.refl _ _⟩
  · exact all_one id x r i hx lo lo g1 g2 1 1 W (h1.below hb) (h2.below hb)

/-- Behind the operation of one round. -/
def Mid (w : World) (n : Int) (B R O : Nat) (x y z : Int) (va vb : Value) (wx : World) : Prop :=
  PlI w n B R wx ∧ Told w wx va vb ∧ wx.heap[O]? = some (.cells #[.int .i64 x, .int .i64 y, .int .i64 z] 28 (0, 0))

set_option maxRecDepth 100000 in
set_option maxHeartbeats 16000000 in
theorem eplays_yes (n : Int) (a : Option Addr) (len cap : Nat) (w : World) (hlen : (len : Int) ≤ 9223372036854775807) (hO : EOps w a len) (hn : 1 ≤ n ∧ n ≤ 127) :
    Calls Try.prog 4 #[.int .i64 n, .slice a len cap] w fun e w' => e = .returned (.bool true) ∧ Below w.heap.size w w' := by
  have HO := Lib.hid hO
  have HNN := Lib.hid hn
  clear hO hn
  go_enter Try.func4, Try.ntmps4
  go_wp2_with fail
  refine (new_ok n _ HNN.out).mono ?_
  rintro e w1 ⟨B, rfl, hB1, hE1, hb1⟩
  have HE1 := Lib.hid hE1
  have HB1 := Lib.hid (And.intro hB1 hb1)
  clear hE1 hB1 hb1
  go_wp2_with fail
  refine (rnew_ok n _ HNN.out).mono ?_
  rintro e w2 ⟨rfl, rfl⟩
  obtain ⟨W2, hW2⟩ : ∃ W2, w1.alloc (.cells #[.int .i64 n, .slice none 0 0, .slice none 0 0, .slice none 0 0] 41) = W2 := ⟨_, rfl⟩
  have HI : Hid (PlI w n B w1.heap.size W2) := by
    have s1 := HB1.out.2.size
    have hbb : Below w1.heap.size w1 W2 := by rw [← hW2]; exact (Below.refl _ w1).alloc (Nat.le_refl _) _
    refine ⟨_, _, _, _, _, [], [], HE1.out.below hbb, ⟨by rw [← hW2]; exact heap_alloc_new _ _, ⟨rfl, .inl ⟨rfl, rfl⟩⟩, ⟨rfl, .inl ⟨rfl, rfl⟩⟩, ⟨rfl, .inl ⟨rfl, rfl⟩⟩, fun j hj => by cases hj⟩, (fun p hp => by cases hp), by simp, by simp, HB1.out.2.trans (hbb.mono s1), ⟨HB1.out.1, s1⟩, (fun j hj => by cases hj), (fun j hj => by cases hj), (fun j hj => by cases hj)⟩
  generalize w1.heap.size = R at *
  clear HE1 HB1
  go_wp2_with fail
  clear hW2
  go_loopg [9] 150 (fun gg i wr => ∃ k : Nat, k ≤ 150 ∧ gg = 150 - k ∧ i = .int .i64 k ∧ PlI w n B R wr)
  case atStart => exact ⟨0, by omega, by omega, rfl, HI.out⟩
  case round =>
    obtain ⟨k, hk, hgk, rfl, hI⟩ := hrel
    have HG := Lib.hid hgk
    clear HI
    have HI := Lib.hid hI
    have hbel : Below w.heap.size w wr := by obtain ⟨_, _, _, _, _, _, _, h⟩ := hI; exact h.2.2.2.2.2.1
    have HBEL := Lib.hid hbel
    have hwr := hbel.size
    clear hgk hI hbel
    by_cases hk1 : k < len ∧ k < 150
    · obtain ⟨hk1, hk2⟩ := hk1
      have d1 : (k : Int) < (len : Int) := by omega
      have d2 : (k : Int) < 150 := by omega
      obtain ⟨sb, off, rfl, hsb, hops⟩ : ∃ sb off, a = some ⟨sb, off, none⟩ ∧ sb < w.heap.size ∧ ∀ i, i < len → ∃ x y z : Int, ElemAt w sb off 3 i [.int .i64 x, .int .i64 y, .int .i64 z] := by
        rcases HO.out with h0 | h0
        · omega
        · exact h0
      obtain ⟨x, y, z, he⟩ := hops k hk1
      obtain ⟨e0, e1, e2⟩ := elem3 (he.below HBEL.out)
      have hsr : sb < wr.heap.size := by omega
      clear hops he
      have HW : Hid (PlI w n B R (wr.alloc (.cells #[.int .i64 x, .int .i64 y, .int .i64 z] 28))) := by
        obtain ⟨av, hv, cv, xv, rv, fs, hs, h⟩ := HI.out
        exact ⟨av, hv, cv, xv, rv, fs, hs, h.below ((Below.refl _ wr).alloc (Nat.le_refl _) _)⟩
      have hX : (wr.alloc (.cells #[.int .i64 x, .int .i64 y, .int .i64 z] 28)).heap[wr.heap.size]? = some (.cells #[.int .i64 x, .int .i64 y, .int .i64 z] 28 (0, 0)) := heap_alloc_new _ _
      go_upto_block 2 with fail
      generalize hW : wr.alloc (.cells #[.int .i64 x, .int .i64 y, .int .i64 z] 28) = W1 at *
      have HX := Lib.hid hX
      have HWO := Lib.hid hwr
      obtain ⟨o0, o1, o2⟩ := cells3' hX
      clear hW hX HI HBEL e0 e1 e2 hsr hwr
      generalize wr.heap.size = O at *
      go_cut [11, 12] from 36 to 150 (fun va vb wx => Mid w n B R O x y z va vb wx)
      case first =>
        obtain ⟨av, hv, cv, xv, rv, fs, hs, hS⟩ := HW.out
        have HS := Lib.hid hS
        clear hS HW
        have hmem : ∀ (fs' : List (Int × Int)), (∀ p ∈ fs', p ∈ fs) → ∀ p ∈ fs', bitC p.1 ≠ 0 := fun fs' h p hp => HS.out.2.2.1 p (h p hp)
        have HMEM := Lib.hid hmem
        have HLO := Lib.hid HS.out.2.2.2.2.2.1.size
        clear hmem
        by_cases hx0 : x = 0
        · subst hx0
          by_cases hrs : rsOk fs y z
          · have HRS := Lib.hid hrs
            obtain ⟨hy1, hy2⟩ := bitC_pos hrs.1
            obtain ⟨Y, rfl⟩ : ∃ Y : Nat, y = (Y : Int) := ⟨y.toNat, by omega⟩
            obtain ⟨Z, rfl⟩ : ∃ Z : Nat, z = (Z : Int) := ⟨z.toNat, by have := hrs.2.1; omega⟩
            clear hrs
            go_wp2_with fail
            refine (raise_yes B (128 + n) av hv fs hs Y Z W1 HS.out.1 (by have := HNN.out; omega) HRS.out HS.out.2.2.2.2.1 (by have := HS.out.2.2.2.1; omega)).mono ?_
            rintro e w3 ⟨g3, av', hv', rfl, hg3, hF3, hE3, hU3, hav, hhv⟩
            have HX3 := Lib.hid (op_behind1 HX.out HS.out hU3)
            have HR3 := Lib.hid (HS.out.rem1 hU3)
            have H3 := Lib.hid (And.intro hg3 (And.intro hF3 (And.intro hE3 (And.intro hU3 hav))))
            obtain ⟨o0, o1, o2⟩ := cells3' HX3.out
            clear hg3 hF3 hE3 hU3 hav hhv
            go_wp2_with fail
            refine (rraise_yes R n cv xv rv fs hs Y Z w3 HR3.out HNN.out HRS.out HS.out.2.2.2.2.1 (by have := HS.out.2.2.2.1; omega)).mono ?_
            rintro e w4 ⟨g4, cv', xv', rv', rfl, hg4, hF4, hR4, hU4, hcv, hxv⟩
            have HN4 : Hid (PlS w n B R av' hv' cv' xv' rv' (fs ++ [((Y : Int), (Z : Int))]) ((((Y + 65536 * Z : Nat) : Int) :: hs).take 4) w4) :=
              HS.out.next H3.out.2.2.2.1 H3.out.2.2.1 H3.out.2.2.2.2 hU4 hR4 hcv hxv (fun p hp => by
                rcases List.mem_append.1 hp with h | h
                · exact HS.out.2.2.1 p h
                · rw [List.mem_singleton.1 h]; exact HRS.out.1) (by have := HS.out.2.2.2.1; have := HRS.out.2.2.2; simp; omega) (by rw [List.length_take]; omega)
            have HX4 := Lib.hid (op_behind2 HX3.out HR3.out hU4)
            have HT4 : Hid (Told w w4 (.slice (some ⟨g3, 0, none⟩) 1 1) (.slice (some ⟨g4, 0, none⟩) 1 1)) := by
              have s1 := HLO.out
              have s2 := H3.out.1
              have s3 := H3.out.2.2.2.1.size
              exact .inr ⟨g3, g4, W1.heap.size, 128 + n, Y, _, Z, rfl, rfl, by omega, emF_behind H3.out.2.1 HR3.out hU4, hF4.mono s3, s1, by omega, by omega⟩
            clear hg4 hF4 hR4 hU4 hcv hxv
            go_wp2_with fail
            go_meet
            case rel => exact ⟨⟨_, _, _, _, _, _, _, HN4.out⟩, HT4.out, HX4.out⟩
          · go_wp2_with fail
            refine (raise_no B (128 + n) av hv fs hs y z W1 HS.out.1 (by have := HNN.out; omega) hrs).mono ?_
            rintro e w3 ⟨rfl, hb3⟩
            have HX3 := Lib.hid (bkeep' hb3 HX.out)
            have HS3 := Lib.hid (HS.out.below hb3)
            obtain ⟨o0, o1, o2⟩ := cells3' HX3.out
            clear hb3
            go_wp2_with fail
            refine (rraise_no R n cv xv rv fs hs y z w3 HS3.out.2.1 hrs (by have := HS3.out.2.2.2.1; omega)).mono ?_
            rintro e w4 ⟨rfl, rfl⟩
            clear hrs
            go_wp2_with fail
            go_meet
            case rel => exact ⟨⟨_, _, _, _, _, _, _, HS3.out⟩, .inl ⟨rfl, rfl⟩, HX3.out⟩
        · by_cases hx1 : x = 1
          · subst hx1
            by_cases hm : (y, z) ∈ fs
            · have HM := Lib.hid hm
              clear hm hx0
              go_wp2_with fail
              refine (clear_yes B (128 + n) av hv fs hs y z W1 HS.out.1 HM.out (by have := HS.out.2.2.2.1; omega)).mono ?_
              rintro e w3 ⟨g3, av', rfl, hg3, hF3, hE3, hU3, hav⟩
              have HX3 := Lib.hid (op_behind1 HX.out HS.out hU3)
              have HR3 := Lib.hid (HS.out.rem1 hU3)
              have H3 := Lib.hid (And.intro hg3 (And.intro hF3 (And.intro hE3 (And.intro hU3 hav))))
              obtain ⟨o0, o1, o2⟩ := cells3' HX3.out
              clear hg3 hF3 hE3 hU3 hav
              go_wp2_with fail
              refine (rclear_yes R n cv xv rv fs hs y z w3 HR3.out HNN.out HM.out (by have := HS.out.2.2.2.1; omega)).mono ?_
              rintro e w4 ⟨g4, cv', xv', rfl, hg4, hF4, hR4, hU4', hcv, hxv⟩
              have hU4 : Upd (fun k => k = R ∨ cv.ownBlock = some k ∨ xv.ownBlock = some k) w3 w4 := hU4'.mono (fun _ _ h => .inl h)
              have HN4 : Hid (PlS w n B R av' hv cv' xv' rv (fs.eraseIdx (fs.idxOf (y, z))) hs w4) :=
                HS.out.next H3.out.2.2.2.1 H3.out.2.2.1 H3.out.2.2.2.2 hU4 hR4 (fun k e => .inr (hcv k e)) (fun k e => .inr (hxv k e)) (HMEM.out _ (fun p hp => List.mem_of_mem_eraseIdx hp)) (by have := HS.out.2.2.2.1; have := List.length_eraseIdx_le fs (fs.idxOf (y, z)); omega) HS.out.2.2.2.2.1
              have HX4 := Lib.hid (op_behind2 HX3.out HR3.out hU4)
              have HT4 : Hid (Told w w4 (.slice (some ⟨g3, 0, none⟩) 1 1) (.slice (some ⟨g4, 0, none⟩) 1 1)) := by
                have s1 := HLO.out
                have s2 := H3.out.1
                have s3 := H3.out.2.2.2.1.size
                exact .inr ⟨g3, g4, W1.heap.size, 128 + n, 0, _, z, rfl, rfl, by omega, emF_behind H3.out.2.1 HR3.out hU4, hF4.mono s3, s1, by omega, by omega⟩
              clear hg4 hF4 hR4 hU4 hU4' hcv hxv
              go_wp2_with fail
              go_meet
              case rel => exact ⟨⟨_, _, _, _, _, _, _, HN4.out⟩, HT4.out, HX4.out⟩
            · have HM := Lib.hid hm
              clear hm hx0
              go_wp2_with fail
              refine (clear_no B (128 + n) av hv fs hs y z W1 HS.out.1 HM.out).mono ?_
              rintro e w3 ⟨rfl, hb3⟩
              have HX3 := Lib.hid (bkeep' hb3 HX.out)
              have HS3 := Lib.hid (HS.out.below hb3)
              obtain ⟨o0, o1, o2⟩ := cells3' HX3.out
              clear hb3
              go_wp2_with fail
              refine (rclear_no R n cv xv rv fs hs y z w3 HS3.out.2.1 HM.out).mono ?_
              rintro e w4 ⟨rfl, rfl⟩
              go_wp2_with fail
              go_meet
              case rel => exact ⟨⟨_, _, _, _, _, _, _, HS3.out⟩, .inl ⟨rfl, rfl⟩, HX3.out⟩
          · have b0 : (x == 0) = false := beq_eq_false_iff_ne.2 hx0
            have b1 : (x == 1) = false := beq_eq_false_iff_ne.2 hx1
            clear hx0 hx1
            go_wp2_with fail
            refine (wipe_any B (128 + n) av hv fs hs W1 HS.out.1).mono ?_
            rintro e w3 ⟨rfl, hE3, hU3'⟩
            have hU3 : Upd (fun k => k = B ∨ av.ownBlock = some k) W1 w3 := hU3'.mono (fun _ _ h => .inl h)
            have HX3 := Lib.hid (op_behind1 HX.out HS.out hU3)
            have HR3 := Lib.hid (HS.out.rem1 hU3)
            obtain ⟨p0, p1, p2, p3⟩ := cells4 HR3.out.1
            have f3 := free_of HR3.out.1 3
            have hR4 : REm (w3.setCell ⟨R, 3, none⟩ (.slice none 0 0)) R n cv xv (.slice none 0 0) fs [] := (HR3.out.to2.set3 (v := .slice none 0 0) (l := []) ⟨rfl, .inl ⟨rfl, rfl⟩⟩).toR
            have hU4 : Upd (fun k => k = R ∨ cv.ownBlock = some k ∨ xv.ownBlock = some k) w3 (w3.setCell ⟨R, 3, none⟩ (.slice none 0 0)) := (Upd.refl _ w3).setCell (p := ⟨R, 3, none⟩) (fun _ => .inl rfl) _
            have HN4 : Hid (PlS w n B R av (.slice none 0 0) cv xv (.slice none 0 0) fs [] (w3.setCell ⟨R, 3, none⟩ (.slice none 0 0))) :=
              HS.out.next hU3 hE3 (fun k e => .inl e) hU4 hR4 (fun k e => .inl e) (fun k e => .inl e) HS.out.2.2.1 HS.out.2.2.2.1 (by simp)
            have HX4 := Lib.hid (op_behind2 HX3.out HR3.out hU4)
            clear hE3 hU3' hU3 hR4 hU4 o0 o1 o2
            go_wp2_with fail
            go_meet
            case rel => exact ⟨⟨_, _, _, _, _, _, _, HN4.out⟩, .inl ⟨rfl, rfl⟩, HX4.out⟩
      case rest =>
        obtain ⟨⟨av, hv, cv, xv, rv, fs, hs, hS⟩, hT, hXc⟩ := hcut
        obtain ⟨wm, rfl⟩ : ∃ wm, wm = wc := ⟨_, rfl⟩
        have HS := Lib.hid hS
        have HT := Lib.hid hT
        have HXC := Lib.hid hXc
        clear hS hT hXc HW HX o0 o1 o2
        go_wp2_with fail
        refine (history_any B (128 + n) av hv fs hs wm HS.out.1 (by have := HS.out.2.2.2.2.1; omega)).mono ?_
        rintro e w5 ⟨v, rfl, hown5, hb5⟩
        obtain ⟨ha, hc, rfl⟩ : ∃ ha hc, v = .slice ha hs.length hc := by
          obtain ⟨a, c, e, _⟩ := (Lax.of_own hown5).shape
          exact ⟨a, c, e⟩
        have HLH := Lib.hid (Lax.of_own hown5)
        have HOW := Lib.hid (fun j hj => (hown5.lt j hj).1)
        have HB5 := Lib.hid hb5
        have HS5 := Lib.hid (HS.out.below hb5)
        have HX5 := Lib.hid (bkeep' hb5 HXC.out)
        clear hown5 hb5
        obtain ⟨ca, cc, rfl, _, hcc, hcm⟩ := HS5.out.2.1.2.1.shape
        have hhs4 : (hs.length : Int) ≤ 4 := by have := HS.out.2.2.2.2.1; omega
        have hfs4 : (fs.length : Int) ≤ 64 := by have := HS.out.2.2.2.1; omega
        obtain ⟨r, hr⟩ : ∃ r, regC fs = r := ⟨_, rfl⟩
        obtain ⟨bt, hbt⟩ : ∃ bt, bitC y = bt := ⟨_, rfl⟩
        have QA : Hid (∀ W', Below w5.heap.size w5 W' → Calls Try.prog 18 #[u11, u12] W' fun e w' => e = .returned (.bool true) ∧ Below w5.heap.size w5 w') := fun W' h =>
          (told_all HT.out W' (HB5.out.trans (h.mono HB5.out.size))).mono fun _ _ hh => ⟨hh.1, h.trans (hh.2.mono h.size)⟩
        have QR : Hid (∀ W', Below w5.heap.size w5 W' → Calls Try.prog 10 #[.pointer (some ⟨B, 0, none⟩)] W' fun e w' => e = .returned (.int .i64 r) ∧ Below w5.heap.size w5 w') := fun W' h => by
          rw [← hr]
          exact (register_any B (128 + n) av hv fs hs W' (HS5.out.1.below h)).mono fun _ _ hh => ⟨hh.1, h.trans (hh.2.mono h.size)⟩
        have QS : Hid (∀ W', Below w5.heap.size w5 W' → Calls Try.prog 19 #[.pointer (some ⟨R, 0, none⟩)] W' fun e w' => e = .returned (.int .i64 r) ∧ W' = w') := fun W' h => by
          rw [← hr]
          exact rreg_any R n _ xv rv fs hs W' (HS5.out.2.1.below h)
        have QH : Hid (∀ W', Below w5.heap.size w5 W' → Calls Try.prog 20 #[.slice ha hs.length hc, rv] W' fun e w' => e = .returned (.bool true) ∧ Below w5.heap.size w5 w') := fun W' h =>
          (hists_any hs _ _ W' (HLH.out.below h) (HS5.out.2.1.2.2.2.1.below h) (by have := HS.out.2.2.2.2.1; omega)).mono fun _ _ ⟨h1, m, h2⟩ => ⟨h1, by rw [h2]; exact belowU h ((Upd.refl (fun _ => False) W').drewN m) (fun _ h => h.elim) (Nat.le_refl _)⟩
        have QV : Hid (∀ W', Below w5.heap.size w5 W' → Calls Try.prog 11 #[.pointer (some ⟨B, 0, none⟩)] W' fun e w' => e = .returned (.int .i64 (fs.length : Nat)) ∧ W' = w') := fun W' h =>
          active_any B (128 + n) av hv fs hs W' (HS5.out.1.below h)
        have QB : Hid (∀ W', Calls Try.prog 21 #[.int .i64 y] W' fun e w' => e = .returned (.int .i64 bt) ∧ W' = w') := fun W' => by rw [← hbt]; exact bit_any y W'
        have QC : Hid (∀ W', Calls Try.prog 22 #[.int .i64 y] W' fun e w' => e = .returned (.int .i64 bt) ∧ W' = w') := fun W' => by rw [← hbt]; exact rbit_any y W'
        obtain ⟨va, vc, hrv, _⟩ := HS5.out.2.1.2.2.2.1.shape
        subst hrv
        have KS : Hid (∀ W', Below w5.heap.size w5 W' → W'.cell? ⟨R, 3, none⟩ = some (.slice va hs.length vc) ∧ W'.cell? ⟨R, 1, none⟩ = some (.slice ca fs.length cc) ∧ W'.cell? ⟨O, 1, none⟩ = some (.int .i64 y)) := fun W' h => by
          have h1 := cells4 (bkeep' h HS5.out.2.1.1)
          have h2 := cells3' (bkeep' h HX5.out)
          exact ⟨h1.2.2.2, h1.2.1, h2.2.1⟩
        have HD := Lib.hid (belowU (Below.refl w5.heap.size w5) ((Upd.refl (fun _ => False) w5).drew) (fun _ h => h.elim) (Nat.le_refl _))
        obtain ⟨s3, s1, so⟩ := KS.out w5 (Below.refl _ _)
        clear hr hbt
        go_upto_region 21 with fail
        go_cut [129] from 36 to 150 (fun c wx => c = .bool false ∧ Below w5.heap.size w5 wx)
        case first =>
          go_region_held3 (fun w' => w'.cell? ⟨R, 3, none⟩ = some (.slice va hs.length vc) ∧ w'.cell? ⟨R, 1, none⟩ = some (.slice ca fs.length cc) ∧ w'.cell? ⟨O, 1, none⟩ = some (.int .i64 y))
            (first
              | go_keep
              | (go_split_ands; exact KS.out _ (by first | assumption | exact HD.out)))
            (first
              | (go_at_call 18; refine (QA.out _ (by first | assumption | exact HD.out)).mono ?_; rintro e w6 ⟨rfl, hb6⟩)
              | (go_at_call 10; refine (QR.out _ (by first | assumption | exact HD.out)).mono ?_; rintro e w7 ⟨rfl, hb7⟩)
              | (go_at_call 19; refine (QS.out _ (by first | assumption | exact HD.out)).mono ?_; rintro e w8 ⟨rfl, rfl⟩)
              | (go_at_call 20; refine (QH.out _ (by first | assumption | exact HD.out)).mono ?_; rintro e w9 ⟨rfl, hb9⟩)
              | (go_at_call 11; refine (QV.out _ (by first | assumption | exact HD.out)).mono ?_; rintro e w8 ⟨rfl, rfl⟩)
              | (go_at_call 21; refine (QB.out _).mono ?_; rintro e w8 ⟨rfl, rfl⟩)
              | (go_at_call 22; refine (QC.out _).mono ?_; rintro e w8 ⟨rfl, rfl⟩))
          go_wp2_with fail
          go_meet
          case rel => exact ⟨rfl, by assumption⟩
        case rest =>
          obtain ⟨rfl, hbc⟩ := hcut
          have HBW := Lib.hid (HB5.out.trans (hbc.mono HB5.out.size))
          have HLC := Lib.hid (HLH.out.below hbc)
          clear hbc HB5 HS5 HX5 HLH QA QR QS QH QV QB QC KS HD s3 s1 so
          go_wp2_with fail
          go_loopg [14] hs.length (fun gg i wr2 => ∃ q : Nat, q ≤ hs.length ∧ gg = hs.length - q ∧ i = .int .i64 (q : Int) ∧ Below wm.heap.size wm wr2 ∧ ∃ ys : List Int, ys.length = hs.length ∧ Lax wr2 45 1 (.slice ha hs.length hc) hs.length (uv ys))
          case atStart => exact ⟨0, by omega, by omega, rfl, HBW.out, hs, rfl, HLC.out⟩
          case round =>
            obtain ⟨q, hq, hgq, rfl, hBq, ys, hyl, hLq⟩ := hrel
            have HGQ := Lib.hid hgq
            have HBQ := Lib.hid hBq
            have HLQ := Lib.hid hLq
            have HYL := Lib.hid hyl
            clear hgq hBq hLq hyl HLC HBW
            by_cases hqh : q < hs.length
            · have dq : (q : Int) < (hs.length : Int) := by omega
              obtain ⟨gh, rfl⟩ := HLQ.out.at0 (by omega)
              obtain ⟨yv, hyv⟩ : ∃ yv, ys[q]? = some yv := ⟨_, List.getElem?_eq_getElem (by rw [HYL.out]; exact hqh)⟩
              have cq := HLQ.out.cell (j := q) (u := .int .u32 yv) (by unfold uv; rw [List.getElem?_map, hyv]; rfl)
              obtain ⟨fq, _⟩ := HLQ.out.free q
              have hgh := HOW.out gh rfl
              have HGH := Lib.hid hgh
              clear hyv hgh
              go_wp2_with fail
              go_roundg (hs.length - (q + 1))
              case measure => have := HGQ.out; omega
              case rel =>
                refine ⟨q + 1, by omega, rfl, by go_num, HBQ.out.setCell (show wm.heap.size ≤ (⟨gh, q, none⟩ : Addr).block from HGH.out) _, ys.set q 7, by rw [List.length_set]; exact HYL.out, ?_⟩
                have := HLQ.out.stored q hqh (.int .u32 7)
                unfold uv at this ⊢
                rw [List.map_set]
                exact this
            · obtain rfl : q = hs.length := by omega
              have HSQ := Lib.hid (HS.out.below HBQ.out)
              clear hqh
              rcases HT.out with ⟨rfl, rfl⟩ | ⟨g1, g2, lo, id, xx, rr, ii, rfl, rfl, hxx, hF1, hF2, hlo, hg1, hg2⟩
              · clear HT
                go_wp2_with fail
                go_loopg [15] 0 (fun gg i wr3 => i = .int .i64 0 ∧ wr3 = wr)
                case atStart => exact ⟨rfl, rfl⟩
                case round =>
                  obtain ⟨rfl, hw3⟩ := hrel
                  subst hw3
                  go_wp2_with fail
                  go_roundg (150 - (k + 1))
                  case measure => have := HG.out; omega
                  case rel => exact ⟨k + 1, by omega, rfl, by go_num, _, _, _, _, _, _, _, HSQ.out⟩
              · have HFR : Hid (EmF wr lo g1 id (xx : Int) rr ii ∧ w.heap.size ≤ lo) := ⟨hF1.below HBQ.out, hlo⟩
                have HPI : Hid (PlI w n B R wr) := ⟨_, _, _, _, _, _, _, HSQ.out⟩
                clear HT hF1 hF2 hlo hg1 hg2 hxx
                go_wp2_with fail
                go_loopg [15] 1 (fun gg i wr3 => ∃ q : Nat, q ≤ 1 ∧ gg = 1 - q ∧ i = .int .i64 (q : Int) ∧ PlI w n B R wr3 ∧ (q = 0 → EmF wr3 lo g1 id (xx : Int) rr ii))
                case atStart => exact ⟨0, by omega, by omega, rfl, HPI.out, fun _ => HFR.out.1⟩
                case round =>
                  obtain ⟨q3, hq3, hg3, rfl, hP3, hF3⟩ := hrel
                  have HG3 := Lib.hid hg3
                  have HP3 := Lib.hid hP3
                  have HF3 := Lib.hid hF3
                  clear hg3 hP3 hF3
                  by_cases h30 : q3 = 0
                  · subst h30
                    obtain ⟨d, dc, ⟨p0, p1, p2⟩, hld, hLd⟩ := (HF3.out rfl).cells
                    have HLD : Hid (Lax _ 5 1 (.slice (some ⟨d, 0, none⟩) 8 dc) 8 (zv [(xx : Int) % 256, (xx : Int) / 256, rr % 256, ii % 256, 0, 0, 0, 0])) := hLd
                    have HLO3 := Lib.hid hld
                    clear hLd hld
                    go_wp2_with fail
                    refine (spoil_upd _ d 8 dc _ rfl (by omega) HLD.out).mono ?_
                    rintro e w9 ⟨rfl, hU9⟩
                    have HP9 : Hid (PlI w n B R w9) := by
                      obtain ⟨av, hv, cv, xv, rv, fs, hs, h⟩ := HP3.out
                      refine ⟨av, hv, cv, xv, rv, fs, hs, h.upd hU9 (fun k cs t hk ht e => ?_) (fun k e => ?_)⟩
                      · subst e
                        have e5 := lax_ty HLD.out rfl hk
                        rw [e5] at ht
                        exact absurd ht (by decide)
                      · have e1 := HFR.out.2
                        have e2 := HLO3.out
                        omega
                    clear hU9
                    go_wp2_with fail
                    go_roundg (1 - (0 + 1))
                    case measure => have := HG3.out; omega
                    case rel => exact ⟨0 + 1, by omega, rfl, by go_num, HP9.out, fun h => absurd h (by omega)⟩
                  · obtain rfl : q3 = 1 := by omega
                    go_wp2_with fail
                    go_roundg (150 - (k + 1))
                    case measure => have := HG.out; omega
                    case rel => exact ⟨k + 1, by omega, rfl, by go_num, HP3.out⟩
    · by_cases hkl : k < len
      · obtain rfl : k = 150 := by omega
        have d1 : ((150 : Nat) : Int) < (len : Int) := by omega
        clear hk1 hkl
        go_wp2_with fail
        refine (known27 _).mono ?_
        rintro e w5 ⟨rfl, hb5⟩
        go_wp2_with fail
        go_ret
        exact ⟨rfl, bstep (B := w.heap.size) (w := w) hb5 HBEL.out (Nat.le_refl _)⟩
      · have d1 : (len : Int) ≤ (k : Int) := by omega
        clear hk1 hkl
        go_wp2_with fail
        refine (known27 _).mono ?_
        rintro e w5 ⟨rfl, hb5⟩
        go_wp2_with fail
        go_ret
        exact ⟨rfl, bstep (B := w.heap.size) (w := w) hb5 HBEL.out (Nat.le_refl _)⟩
end Go.Proofs.Ytlhbgikgaoeciaa
