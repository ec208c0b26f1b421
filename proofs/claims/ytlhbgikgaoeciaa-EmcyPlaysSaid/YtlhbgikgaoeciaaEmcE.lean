/-
  CONTRACT of emcy's Raise where it tells.
-/
import Derived.Test.YtlhbgikgaoeciaaEmcD
import Derived.Deep.CutRange
set_option linter.unusedSimpArgs false
set_option linter.unusedVariables false
namespace Go.Proofs.Ytlhbgikgaoeciaa
open Go.RowKit
attribute [local go_sem] Oper.semAt_some

theorem orW (x i : Nat) (hx : x < 65536) (hi : i < 65536) : bits .or .u32 (x : Int) ((i : Int) * 65536) = ((x + 65536 * i : Nat) : Int) := by
  have h := (bits_nat .u32 32 (by decide) (fun n h0 h1 => by rw [IntKind.wrap_u32]; omega) x (i * 65536) (by omega) (by omega)).2
  rw [show ((i * 65536 : Nat) : Int) = (i : Int) * 65536 from by omega] at h
  rw [h, Nat.or_comm, show i * 65536 = 2 ^ 16 * i from by omega, ← Nat.two_pow_add_eq_or_of_lt (show x < 2 ^ 16 by omega) i]
  omega

theorem av_ne {w : World} {b : Nat} {id : Int} {av hv : Value} {fs : List (Int × Int)} {hs : List Int} (h : Emc w b id av hv fs hs) : ∀ g, av.ownBlock = some g → g ≠ b := fun g hg e => by
  subst e
  obtain ⟨_, cur, hc⟩ := h.2.1.lt g hg
  rw [h.1] at hc
  injection hc with hc
  injection hc with _ h2
  cases h2
theorem hv_ne {w : World} {b : Nat} {id : Int} {av hv : Value} {fs : List (Int × Int)} {hs : List Int} (h : Emc w b id av hv fs hs) : ∀ g, hv.ownBlock = some g → g ≠ b ∧ av.ownBlock ≠ some g := fun g hg => by
  obtain ⟨_, cur, hc⟩ := h.2.2.lt g hg
  refine ⟨fun e => ?_, fun e => ?_⟩
  · subst e
    rw [h.1] at hc
    injection hc with hc
    injection hc with _ h2
    cases h2
  · obtain ⟨_, cur2, hc2⟩ := h.2.1.lt g e
    rw [hc2] at hc
    injection hc with hc
    injection hc with _ h2
    cases h2

theorem Lax.take {w : World} {e g n c m : Nat} {xs : List Value} (h : Lax w e 1 (.slice (some ⟨g, 0, none⟩) n c) n xs) (hm : m ≤ n) : Lax w e 1 (.slice (some ⟨g, 0, none⟩) m c) m (xs.take m) := by
  refine ⟨by have := h.1; rw [List.length_take]; omega, ?_⟩
  rcases h.2 with ⟨h0, _⟩ | ⟨g', cap, cur, e1, hh, h1, h2, h3, h4⟩
  · cases h0
  · cases e1
    refine .inr ⟨g, c, cur, rfl, hh, by omega, h2, h3, ?_⟩
    rw [← h4, List.take_take, show min m (n * 1) = m * 1 from by omega]
theorem EmF.mono {w : World} {lo lo' g : Nat} {id x r i : Int} (h : EmF w lo g id x r i) (hl : lo' ≤ lo) : EmF w lo' g id x r i := by
  obtain ⟨d, c, h1, h2, h3⟩ := h
  exact ⟨d, c, h1, by omega, h3⟩

set_option maxRecDepth 100000 in
set_option maxHeartbeats 4000000 in
theorem raise_yes (b : Nat) (id : Int) (av hv : Value) (fs : List (Int × Int)) (hs : List Int) (x i : Nat) (w : World) (h : Emc w b id av hv fs hs) (hid : id ≠ 0) (hk : rsOk fs x i) (hh : hs.length ≤ 4) (hf : fs.length ≤ 1000000) :
    Calls Try.prog 8 #[.pointer (some ⟨b, 0, none⟩), .int .i64 (x : Int), .int .i64 (i : Int)] w fun e w' => ∃ g av' hv', e = .returned (.slice (some ⟨g, 0, none⟩) 1 1) ∧ w.heap.size ≤ g ∧ EmF w' w.heap.size g id x (regC (fs ++ [((x : Int), (i : Int))])) i ∧
      Emc w' b id av' hv' (fs ++ [((x : Int), (i : Int))]) ((((x + 65536 * i : Nat) : Int) :: hs).take 4) ∧ Upd (fun k => k = b ∨ av.ownBlock = some k) w w' ∧ (∀ k, av'.ownBlock = some k → av.ownBlock = some k ∨ w.heap.size ≤ k) ∧ (∀ k, hv'.ownBlock = some k → w.heap.size ≤ k) := by
  obtain ⟨k1, ⟨k2, k3⟩, k4, k5⟩ := hk
  have hxx := bitC_pos k1
  obtain ⟨aa, ac, rfl, hnil, hac, hcm⟩ := h.2.1.shape
  obtain ⟨ha, hc, rfl, hhnil, hhc, hhm⟩ := h.2.2.shape
  have hml : maxLen ≤ 9223372036854775807 := by unfold maxLen; omega
  obtain ⟨c0, c1, c2⟩ := cells3' h.1
  have hbl := h.lt
  have HE := Lib.hid h
  have HNIL := Lib.hid hhnil
  have hidb : (id == 0) = false := by rw [beq_eq_false_iff_ne]; exact hid
  have HB := Lib.hid (bit_any x w)
  have kb1 : (bitC x == 0) = false := by rw [beq_eq_false_iff_ne]; exact k1
  have d2 : decide ((i : Int) < 0) = false := decide_eq_false (by omega)
  have d3 : decide ((255 : Int) < i) = false := decide_eq_false (by omega)
  have HA := Lib.hid (fun w' hb => at_any b id (.slice aa fs.length ac) (.slice ha hs.length hc) fs hs x i w' (HE.out.below (w' := w') hb))
  have k6 : fs.idxOf ((x : Int), (i : Int)) = fs.length := by
    have h1 := List.idxOf_le_length (a := ((x : Int), (i : Int))) (l := fs)
    have h2 : ¬ fs.idxOf ((x : Int), (i : Int)) < fs.length := fun h => k4 (idx_mem.1 h)
    omega
  rw [k6] at HA
  have d5b : (((fs.length : Nat) : Int) == 64) = false := by rw [beq_eq_false_iff_ne]; omega
  have hx1 : (x : Int) < 65536 := by omega
  have hi1 : (i : Int) < 256 := by omega
  have hx0 : (0 : Int) ≤ (x : Int) := by omega
  have hi0 : (0 : Int) ≤ (i : Int) := by omega
  have HW := Lib.hid (orW x i (by omega) (by omega))
  clear h hid hnil hhnil k1 k2 k3 k4 k5 k6 hxx
  generalize bitC x = bc at *
  go_enter Try.func8, Try.ntmps8
  go_wp2_with fail
  refine HB.out.mono ?_
  rintro e w1 ⟨rfl, rfl⟩
  go_wp2_with fail
  refine (HA.out _ (by go_grown)).mono ?_
  rintro e w2 ⟨rfl, hb2⟩
  have HB2 := Lib.hid (bstep (B := w.heap.size) (w := w) hb2 (by go_grown) (Nat.le_refl _))
  have hX2 := bkeep' hb2 (heap_alloc_new w (.cells #[.int .i64 (x : Int), .int .i64 (i : Int)] 64))
  have hE2 := HE.out.below (show Below w.heap.size w w2 from HB2.out)
  have s2 := HB2.out.size
  obtain ⟨x0, x1⟩ := cells2 hX2
  obtain ⟨e0, e1, e2⟩ := cells3' hE2.1
  have HE2 := Lib.hid hE2
  clear hb2 hX2 hE2 c0 c1 c2 HA HB
  go_wp2_with fail
  go_cut [] from 49 (fun wx => ∃ g3 cap3, Emc wx b id (.slice (some ⟨g3, 0, none⟩) (fs.length + 1) cap3) (.slice ha hs.length hc) (fs ++ [((x : Int), (i : Int))]) hs ∧ Upd (fun k => k = b ∨ (Value.slice aa fs.length ac).ownBlock = some k) w wx ∧ ((Value.slice aa fs.length ac).ownBlock = some g3 ∨ w.heap.size ≤ g3))
  case first =>
    have hne := av_ne HE2.out
    have hbb : b < w2.heap.size := HE2.out.lt
    have fb1 : w2.frozen? ⟨b, 1, none⟩ = false := free_of HE2.out.1 1
    have HL2 : Hid (Lax (w2.drew.alloc (.cells #[.int .i64 (x : Int), .int .i64 (i : Int)] 64)) 64 2 (.slice aa fs.length ac) fs.length (fvals fs)) := HE2.out.2.1.upd ((Upd.refl (fun _ => False) w2).drew.alloc _) (fun _ _ h => h)
    have HNW : Hid (∀ j u, [Value.int .i64 (x : Int), .int .i64 (i : Int)][j]? = some u → (w2.drew.alloc (.cells #[.int .i64 (x : Int), .int .i64 (i : Int)] 64)).cell? ((⟨w2.heap.size, 0, none⟩ : Addr).add j) = some u) := by
      intro j u hu
      have hnew : (w2.drew.alloc (.cells #[.int .i64 (x : Int), .int .i64 (i : Int)] 64)).heap[w2.heap.size]? = some (.cells #[.int .i64 (x : Int), .int .i64 (i : Int)] 64 (0, 0)) := anew _ _ rfl
      obtain ⟨n0, n1⟩ := cells2 hnew
      rw [Addr.add_lit, Nat.zero_add]
      match j, hu with
      | 0, hu => simp at hu; subst hu; exact n0
      | 1, hu => simp at hu; subst hu; exact n1
    have H1C : Hid (∀ u ∈ [Value.int .i64 (x : Int), .int .i64 (i : Int)], u.oneCell' = true) := by intro u hu; simp at hu; rcases hu with rfl | rfl <;> rfl
    have hml2 : fs.length + 1 ≤ maxLen := by unfold maxLen; omega
    go_region_law (refine step_append_lax rfl (.tmp 53) (.tmp 55) 60 rfl 64 (.agg #[.int .i64 0, .int .i64 0]) 2 16 Try.underlying60 info64 rfl (by decide) (.slice aa fs.length ac) fs.length (fvals fs) rfl HL2.out ⟨w2.heap.size, 0, none⟩ 1 1 [.int .i64 (x : Int), .int .i64 (i : Int)] rfl rfl HNW.out H1C.out (by omega) hml2 (by omega) ?_; intro g3 cap3 w3 hl3 hg3 hd3; have q0 : w3.heap[b]? = some (.cells #[.int .i64 id, .slice aa fs.length ac, .slice ha hs.length hc] 62 (0, 0)) := (hg3.block b (by show b < (w2.drew.alloc (.cells #[.int .i64 (x : Int), .int .i64 (i : Int)] 64)).heap.size; simp; omega) (fun e => hne b e.symm rfl)).trans (akeep (W := w2) (.cells #[.int .i64 (x : Int), .int .i64 (i : Int)] 64) HE2.out.1); have q1 := (cells3' q0).2.1; have q2 := free_of q0 1)
    all_goals
      have hU3 : Upd (fun k => k = b ∨ (Value.slice aa fs.length ac).ownBlock = some k) w w3 := (((Upd.ofBelow' (S := fun k => k = b ∨ (Value.slice aa fs.length ac).ownBlock = some k) HB2.out).alloc (.cells #[.int .i64 (x : Int), .int .i64 (i : Int)] 64)).drew).grown hg3 (fun k e _ => .inr e)
      have hd3' : (Value.slice aa fs.length ac).ownBlock = some g3 ∨ w.heap.size ≤ g3 := hd3.imp (fun e => e) (fun e => by rw [e]; show w.heap.size ≤ (w2.alloc (.cells #[.int .i64 (x : Int), .int .i64 (i : Int)] 64)).heap.size; simp; omega)
      have hbg3 : g3 ≠ b := fun e => by
        rcases hd3' with h | h
        · exact hne g3 h e
        · omega
      have hhv := hv_ne HE2.out
      have hL3 : Lax w3 45 1 (.slice ha hs.length hc) hs.length (uv hs) := HE2.out.2.2.keep (fun k hk => by
        have h1 := (HE2.out.2.2.lt k hk).1
        exact (hg3.block k (by show k < (w2.alloc (.cells #[.int .i64 (x : Int), .int .i64 (i : Int)] 64)).heap.size; simp; omega) (fun e => (hhv k hk).2 e.symm)).trans (heap_alloc_old w2 (.cells #[.int .i64 (x : Int), .int .i64 (i : Int)] 64) h1))
      have HR : Hid (Emc (w3.setCell ⟨b, 1, none⟩ (.slice (some ⟨g3, 0, none⟩) (fs.length + 1) cap3)) b id (.slice (some ⟨g3, 0, none⟩) (fs.length + 1) cap3) (.slice ha hs.length hc) (fs ++ [((x : Int), (i : Int))]) hs ∧ Upd (fun k => k = b ∨ (Value.slice aa fs.length ac).ownBlock = some k) w (w3.setCell ⟨b, 1, none⟩ (.slice (some ⟨g3, 0, none⟩) (fs.length + 1) cap3)) ∧ ((Value.slice aa fs.length ac).ownBlock = some g3 ∨ w.heap.size ≤ g3)) := by
        have hUs := (Upd.refl (· = b) w3).setCell (p := ⟨b, 1, none⟩) (fun _ => rfl) (.slice (some ⟨g3, 0, none⟩) (fs.length + 1) cap3)
        refine ⟨⟨hset q0 1 _, ?_, hL3.upd hUs (fun k hk => (hhv k hk).1)⟩, hU3.setCell (p := ⟨b, 1, none⟩) (fun _ => .inl rfl) _, hd3'⟩
        have hl3' : Lax w3 64 2 (.slice (some ⟨g3, 0, none⟩) (fs ++ [((x : Int), (i : Int))]).length cap3) (fs ++ [((x : Int), (i : Int))]).length (fvals (fs ++ [((x : Int), (i : Int))])) := by
          rw [List.length_append, fvals_snoc]; exact hl3
        have := hl3'.upd hUs (fun k hk e => hbg3 (by simp [Value.ownBlock] at hk; omega))
        simpa [List.length_append] using this
      clear hU3 hd3' hbg3 hhv hL3 hl3 hg3 hd3 q0 q1 q2
      go_wp2_with fail
      go_meet
      case rel => exact ⟨g3, cap3, HR.out⟩
  case rest =>
    obtain ⟨g3, cap3, hEc, hUc, hgc⟩ := hcut
    have HEc := Lib.hid hEc
    have HUc := Lib.hid hUc
    have HGC := Lib.hid hgc
    have hwc := hUc.size
    have hbc := hEc.lt
    obtain ⟨e0, e1, e2⟩ := cells3' hEc.1
    have fb2 : wc.frozen? ⟨b, 2, none⟩ = false := free_of hEc.1 2
    have hwv := HW.out
    have hul : (uv hs).length = hs.length * 1 := by simp [uv]
    have hu1 : ∀ u ∈ uv hs, u.oneCell' = true := fun u hu => by simp [uv] at hu; obtain ⟨z, _, rfl⟩ := hu; rfl
    have HN := Lib.hid (And.intro HNIL.out (And.intro hul hu1))
    have HOL : Hid ((wc.alloc (.cells #[.int .u32 ((x + 65536 * i : Nat) : Int)] 45)).ownsRow wc.heap.size 45 1 (.slice (some ⟨wc.heap.size, 0, none⟩) 1 1) 1 [.int .u32 ((x + 65536 * i : Nat) : Int)]) := World.ownsRow_lit wc #[.int .u32 ((x + 65536 * i : Nat) : Int)] 1 (Nat.le_refl _) (by unfold maxLen; omega) rfl
    have HLh : Hid (Lax (wc.alloc (.cells #[.int .u32 ((x + 65536 * i : Nat) : Int)] 45)) 45 1 (.slice ha hs.length hc) hs.length (uv hs)) := hEc.2.2.upd ((Upd.refl (fun _ => False) wc).alloc _) (fun _ _ h => h)
    obtain ⟨wd, hwd⟩ : ∃ wd : Nat, x + 65536 * i = wd := ⟨_, rfl⟩
    rw [hwd] at hwv HOL HLh
    have HWD := Lib.hid hwd
    clear hEc hUc hgc hul hu1 hwd HE2 HE HB2
    go_wp2_with (at_builtin; refine wpList_append_any rfl (.tmp 65) (.tmp 69) 32 rfl wc.heap.size 45 (.int .u32 0) 1 4 Try.underlying32 info45 rfl (by decide) (.slice (some ⟨wc.heap.size, 0, none⟩) 1 1) 1 _ rfl HOL.out ha hs.length hc (uv hs) rfl HN.out.1 HN.out.2.1 HLh.out.news HN.out.2.2 ?c3 ?c4 ?c5 ?_)
    case c3 => unfold maxLen; omega
    case c4 => omega
    case c5 => simp
    intro v' w4 hown hg4
    obtain ⟨gh, caph, rfl, hgh, hghl⟩ := own_shape hown (by omega)
    have hcap := own_cap hown
    have HH4 := Lib.hid (Lax.of_own hown)
    have HB4 : Hid (w4.heap[b]? = some (.cells #[.int .i64 id, .slice (some ⟨g3, 0, none⟩) (fs.length + 1) cap3, .slice ha hs.length hc] 62 (0, 0))) := (hg4.block b (by simp; omega) (fun e => by simp [Value.ownBlock] at e; omega)).trans (akeep _ HEc.out.1)
    have HA4 : Hid (Lax w4 64 2 (.slice (some ⟨g3, 0, none⟩) (fs.length + 1) cap3) (fs ++ [((x : Int), (i : Int))]).length (fvals (fs ++ [((x : Int), (i : Int))]))) := by
      refine HEc.out.2.1.keep (fun k hk => ?_)
      have h1 := (HEc.out.2.1.lt k hk).1
      exact (hg4.block k (by simp; omega) (fun e => by simp [Value.ownBlock] at e; omega)).trans (heap_alloc_old wc _ h1)
    have HU4 : Hid (Upd (fun k => k = b ∨ (Value.slice aa fs.length ac).ownBlock = some k) w w4) := (HUc.out.alloc (.cells #[.int .u32 (wd : Int)] 45)).grown hg4 (fun k e hk => by simp [Value.ownBlock] at e; omega)
    have s4 := HU4.out.size
    obtain ⟨e0, e1, e2⟩ := cells3' HB4.out
    have fb2 : w4.frozen? ⟨b, 2, none⟩ = false := free_of HB4.out 2
    have hb4 := lt_of_block HB4.out
    clear hown hg4
    by_cases h4 : 1 + hs.length ≤ 4
    · have d4 : ((1 + hs.length : Nat) : Int) ≤ 4 := by omega
      have hE5 : Emc (w4.setCell ⟨b, 2, none⟩ (.slice (some ⟨gh, 0, none⟩) (1 + hs.length) caph)) b id (.slice (some ⟨g3, 0, none⟩) (fs.length + 1) cap3) (.slice (some ⟨gh, 0, none⟩) (1 + hs.length) caph) (fs ++ [((x : Int), (i : Int))]) (((wd : Int) :: hs).take 4) := by
        have hUs := (Upd.refl (· = b) w4).setCell (p := ⟨b, 2, none⟩) (fun _ => rfl) (.slice (some ⟨gh, 0, none⟩) (1 + hs.length) caph)
        refine ⟨hset HB4.out 2 _, HA4.out.upd hUs (fun k hk => av_ne HEc.out k hk), ?_⟩
        have h1 := (HH4.out.take (m := 1 + hs.length) (by omega)).upd hUs (fun k hk e => by simp [Value.ownBlock] at hk; omega)
        have hl : (((wd : Int) :: hs).take 4).length = 1 + hs.length := by simp; omega
        rw [hl]
        have e2 : uv (((wd : Int) :: hs).take 4) = ([Value.int .u32 (wd : Int)] ++ uv hs).take (1 + hs.length) := by
          show (((wd : Int) :: hs).take 4).map (Value.int .u32) = (((wd : Int) :: hs).map (Value.int .u32)).take (1 + hs.length)
          rw [List.map_take]
          rw [List.take_of_length_le (by simp; omega), List.take_of_length_le (by simp; omega)]
        rw [e2]
        exact h1
      have HE5 := Lib.hid hE5
      clear hE5
      go_wp2_with fail
      refine (frame_any b id (.slice (some ⟨g3, 0, none⟩) (fs.length + 1) cap3) (.slice (some ⟨gh, 0, none⟩) (1 + hs.length) caph) (fs ++ [((x : Int), (i : Int))]) (((wd : Int) :: hs).take 4) x i _ HE5.out (by omega)).mono ?_
      rintro e w6 ⟨g, rfl, hgg, hF, hb6⟩
      have HF6 := Lib.hid hF
      have HE6 := Lib.hid (HE5.out.below hb6)
      have HU6 := Lib.hid ((HU4.out.setCell (p := ⟨b, 2, none⟩) (fun _ => .inl rfl) (.slice (some ⟨gh, 0, none⟩) (1 + hs.length) caph)).trans (Upd.ofBelow' (S := fun _ => False) hb6) (fun _ _ h => h.elim))
      have s6 := hb6.size
      simp at hgg
      clear hF hb6
      go_wp2_with fail
      go_ret
      rw [HWD.out]
      refine ⟨g, _, _, rfl, by omega, HF6.out.mono (by simp; omega), HE6.out, HU6.out, fun k hk => ?_, fun k hk => ?_⟩
      · simp [Value.ownBlock] at hk; subst hk; exact HGC.out
      · simp [Value.ownBlock] at hk; omega
    · have d4 : (4 : Int) < 1 + (hs.length : Int) := by omega
      have HHH := Lib.hid hh
      have hE5 : Emc (w4.setCell ⟨b, 2, none⟩ (.slice (some ⟨gh, 0, none⟩) (4) caph)) b id (.slice (some ⟨g3, 0, none⟩) (fs.length + 1) cap3) (.slice (some ⟨gh, 0, none⟩) (4) caph) (fs ++ [((x : Int), (i : Int))]) (((wd : Int) :: hs).take 4) := by
        have hUs := (Upd.refl (· = b) w4).setCell (p := ⟨b, 2, none⟩) (fun _ => rfl) (.slice (some ⟨gh, 0, none⟩) (4) caph)
        refine ⟨hset HB4.out 2 _, HA4.out.upd hUs (fun k hk => av_ne HEc.out k hk), ?_⟩
        have h1 := (HH4.out.take (m := 4) (by omega)).upd hUs (fun k hk e => by simp [Value.ownBlock] at hk; omega)
        have hl : (((wd : Int) :: hs).take 4).length = 4 := by simp; omega
        rw [hl]
        have e2 : uv (((wd : Int) :: hs).take 4) = ([Value.int .u32 (wd : Int)] ++ uv hs).take (4) := by
          show (((wd : Int) :: hs).take 4).map (Value.int .u32) = (((wd : Int) :: hs).map (Value.int .u32)).take (4)
          rw [List.map_take]
        rw [e2]
        exact h1
      have HE5 := Lib.hid hE5
      clear hE5 hh h4
      go_wp2_with fail
      refine (frame_any b id (.slice (some ⟨g3, 0, none⟩) (fs.length + 1) cap3) (.slice (some ⟨gh, 0, none⟩) (4) caph) (fs ++ [((x : Int), (i : Int))]) (((wd : Int) :: hs).take 4) x i _ HE5.out (by omega)).mono ?_
      rintro e w6 ⟨g, rfl, hgg, hF, hb6⟩
      have HF6 := Lib.hid hF
      have HE6 := Lib.hid (HE5.out.below hb6)
      have HU6 := Lib.hid ((HU4.out.setCell (p := ⟨b, 2, none⟩) (fun _ => .inl rfl) (.slice (some ⟨gh, 0, none⟩) (4) caph)).trans (Upd.ofBelow' (S := fun _ => False) hb6) (fun _ _ h => h.elim))
      have s6 := hb6.size
      simp at hgg
      clear hF hb6
      go_wp2_with fail
      go_ret
      rw [HWD.out]
      refine ⟨g, _, _, rfl, by omega, HF6.out.mono (by simp; omega), HE6.out, HU6.out, fun k hk => ?_, fun k hk => ?_⟩
      · simp [Value.ownBlock] at hk; subst hk; exact HGC.out
      · simp [Value.ownBlock] at hk; omega
end Go.Proofs.Ytlhbgikgaoeciaa
