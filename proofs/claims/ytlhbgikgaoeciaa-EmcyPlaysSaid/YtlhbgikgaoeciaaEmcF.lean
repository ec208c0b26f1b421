/-
  CONTRACT of emcy's Clear.
-/
import Derived.Test.YtlhbgikgaoeciaaEmcE
set_option linter.unusedSimpArgs false
set_option linter.unusedVariables false
namespace Go.Proofs.Ytlhbgikgaoeciaa
open Go.RowKit
attribute [local go_sem] Oper.semAt_some

/-- append of nothing. -/
theorem run_append_nothing {P : Program} (w : World) (t ty e : TypeId) (i : TypeInfo) (ht : P.underlying t = some (.slice e)) (hi : P.info? e = some i) (g n cap c : Nat) (ax : Option Addr) (hn : n ≤ cap) :
    (Builtin.append_ #[t, t] ty #[.slice (some ⟨g, 0, none⟩) n cap, .slice ax 0 c]).run P w = .ok (.slice (some ⟨g, 0, none⟩) n cap) w := by
  cases ax <;> simp [Builtin.append_, run_underlying ht, sizeOf, typeInfo, hi, Builtin.lenOf, hn, Builtin.firstCells, loadCells, loadCellsFrom, storeCells]

theorem step_append_nothing {P : Program} {w : World} {ops : Array Oper} {o : Oper} {a : Act} {K : Act → World → Prop} {Q : Exit → Act → World → Prop} {E : Prop} (hgd : o.guard = none) (s x : Operand) (t : TypeId)
    (ho : o.op = .call { callee := .builtin .append, args := #[s, x], argTypes := #[t, t] })
    (e : TypeId) (z : Value) (size bytes : Nat) (ht : P.underlying t = some (.slice e)) (hinfo : (P.info? e).map (fun i => (i.zero, i.size, i.bytes)) = some (some z, size, bytes))
    (g n cap c : Nat) (ax : Option Addr) (hn : n ≤ cap) (hs : a.eval s = .slice (some ⟨g, 0, none⟩) n cap) (hx : a.eval x = .slice ax 0 c)
    (h : K (a.put o.dst (.slice (some ⟨g, 0, none⟩) n cap)) w) :
    if Region.wanted o (yielded ops a.tmps) = true then Oper.wp P o a w K Q else E := by
  have hw : Region.wanted o (yielded ops a.tmps) = true := by simp [Region.wanted, hgd]
  rw [if_pos hw]
  obtain ⟨i0, hi, hz0, hz1, hz2⟩ := info_parts hinfo
  have hr := run_append_nothing (P := P) w t o.type e i0 ht hi g n cap c ax hn
  unfold Oper.wp execOp
  simp only [ho, resolve, invoke, builtin, Sem.run_bind, Sem.run_pure, Result.andThen_ok, List.map_toArray, List.map_cons, List.map_nil, hs, hx, hr]
  exact h

theorem frame_zero (b : Nat) (id : Int) (av hv : Value) (fs : List (Int × Int)) (hs : List Int) (i : Int) (w : World) (h : Emc w b id av hv fs hs) :
    Calls Try.prog 26 #[.pointer (some ⟨b, 0, none⟩), .int .i64 0, .int .i64 i] w fun e w' => ∃ g, e = .returned (.slice (some ⟨g, 0, none⟩) 1 1) ∧ w.heap.size ≤ g ∧ EmF w' w.heap.size g id 0 (regC fs) i ∧ Below w.heap.size w w' :=
  frame_any b id av hv fs hs 0 i w h (by omega)

set_option maxRecDepth 100000 in
set_option maxHeartbeats 4000000 in
theorem clear_no (b : Nat) (id : Int) (av hv : Value) (fs : List (Int × Int)) (hs : List Int) (c i : Int) (w : World) (h : Emc w b id av hv fs hs) (hk : (c, i) ∉ fs) :
    Calls Try.prog 9 #[.pointer (some ⟨b, 0, none⟩), .int .i64 c, .int .i64 i] w fun e w' => e = .returned (.slice none 0 0) ∧ Below w.heap.size w w' := by
  obtain ⟨aa, ac, rfl, hnil, hac, hcm⟩ := h.2.1.shape
  have hml : maxLen ≤ 9223372036854775807 := by unfold maxLen; omega
  have HE := Lib.hid h
  have HA := Lib.hid (at_any b id (.slice aa fs.length ac) hv fs hs c i w h)
  have k6 : fs.idxOf (c, i) = fs.length := by
    have h1 := List.idxOf_le_length (a := (c, i)) (l := fs)
    have h2 : ¬ fs.idxOf (c, i) < fs.length := fun h => hk (idx_mem.1 h)
    omega
  rw [k6] at HA
  clear h hnil hk k6
  go_enter Try.func9, Try.ntmps9
  go_wp2_with fail
  refine HA.out.mono ?_
  rintro e w2 ⟨rfl, hb2⟩
  have HB2 := Lib.hid hb2
  obtain ⟨c0, c1, c2⟩ := cells3' (HE.out.below hb2).1
  clear hb2
  go_wp2_with fail
  go_ret
  exact ⟨rfl, HB2.out⟩

set_option maxRecDepth 100000 in
set_option maxHeartbeats 4000000 in
theorem clear_yes (b : Nat) (id : Int) (av hv : Value) (fs : List (Int × Int)) (hs : List Int) (c i : Int) (w : World) (h : Emc w b id av hv fs hs) (hk : (c, i) ∈ fs) (hf : fs.length ≤ 1000000) :
    Calls Try.prog 9 #[.pointer (some ⟨b, 0, none⟩), .int .i64 c, .int .i64 i] w fun e w' => ∃ g av', e = .returned (.slice (some ⟨g, 0, none⟩) 1 1) ∧ w.heap.size ≤ g ∧ EmF w' w.heap.size g id 0 (regC (fs.eraseIdx (fs.idxOf (c, i)))) i ∧
      Emc w' b id av' hv (fs.eraseIdx (fs.idxOf (c, i))) hs ∧ Upd (fun j => j = b ∨ av.ownBlock = some j) w w' ∧ (∀ k, av'.ownBlock = some k → av.ownBlock = some k ∨ w.heap.size ≤ k) := by
  obtain ⟨aa, ac, rfl, hnil, hac, hcm⟩ := h.2.1.shape
  obtain ⟨ha, hc, rfl, hhnil, hhc, hhm⟩ := h.2.2.shape
  have hml : maxLen ≤ 9223372036854775807 := by unfold maxLen; omega
  have HE := Lib.hid h
  have HA := Lib.hid (at_any b id (.slice aa fs.length ac) (.slice ha hs.length hc) fs hs c i w h)
  obtain ⟨k, hkk⟩ : ∃ k, fs.idxOf (c, i) = k := ⟨_, rfl⟩
  have hkl : k < fs.length := by rw [← hkk]; exact idx_mem.2 hk
  rw [hkk] at HA ⊢
  obtain ⟨g, rfl⟩ := h.2.1.at0 (by omega)
  have hgl := (h.2.1.lt g rfl).1
  have hbl := h.lt
  have hgb := av_ne h g rfl
  clear h hnil hhnil hk hkk
  have hkb : ((k : Int) == (fs.length : Int)) = false := by rw [beq_eq_false_iff_ne]; omega
  go_enter Try.func9, Try.ntmps9
  go_wp2_with fail
  refine HA.out.mono ?_
  rintro e w2 ⟨rfl, hb2⟩
  have HB2 := Lib.hid hb2
  have HE2 := Lib.hid (HE.out.below hb2)
  have s2 := hb2.size
  obtain ⟨c0, c1, c2⟩ := cells3' HE2.out.1
  have fb1 : w2.frozen? ⟨b, 1, none⟩ = false := free_of HE2.out.1 1
  clear hb2 HA HE
  go_wp2_with fail
  have b1 : (k : Int) ≤ (ac : Int) := by omega
  have b2 : (k : Int) + 1 ≤ (fs.length : Int) := by omega
  have b3 : (fs.length : Int) ≤ (ac : Int) := by omega
  have b4 : k ≤ ac := by omega
  have b5 : (0 : Int) ≤ (k : Int) + 1 := by omega
  have hwk : IntKind.i64.wrap ((k : Int) + 1) = (k : Int) + 1 := IntWalk.i64_in _ (by omega)
  have hv0 := hv_ne HE2.out
  have hlen : (fs.eraseIdx k).length = fs.length - 1 := by rw [List.length_eraseIdx]; rw [if_pos hkl]
  have HLEN := Lib.hid hlen
  have HV := Lib.hid hv0
  clear hv0 hlen
  by_cases hm : k + 1 = fs.length
  · have hz : fs.length - (k + 1) = 0 := by omega
    have hfe : fs.eraseIdx k = fs.take k := by
      rw [List.eraseIdx_eq_take_drop_succ, hm, List.drop_length, List.append_nil]
    have HL3 : Hid (Lax w2 64 2 (.slice (some ⟨g, 0, none⟩) k k) (fs.eraseIdx k).length (fvals (fs.eraseIdx k))) := by
      have hl := HE2.out.2.1
      have hlk : (fs.take k).length = k := by rw [List.length_take]; omega
      rw [hfe, hlk]
      refine ⟨by rw [fvals_len, hlk], ?_⟩
      rcases hl.2 with ⟨h0, _⟩ | ⟨g', cap, cur, e1, hh, h1, h2, h3, h4⟩
      · cases h0
      · cases e1
        refine .inr ⟨g, k, cur, rfl, hh, Nat.le_refl _, by omega, by omega, ?_⟩
        have e3 : fvals fs = fvals (fs.take k) ++ fvals (fs.drop k) := by rw [← fvals_append, List.take_append_drop]
        rw [e3] at h4
        have e4 := congrArg (List.take (k * 2)) h4
        rw [List.take_take, show min (k * 2) (fs.length * 2) = k * 2 from by omega, List.take_left' (by rw [fvals_len, hlk])] at e4
        exact e4
    have hmw := b3
    clear hm b3
    go_wp2_with fail
    go_region_law (refine step_append_nothing rfl (.tmp 29) (.tmp 36) 60 rfl 64 (.agg #[.int .i64 0, .int .i64 0]) 2 16 Try.underlying60 info64 g k k _ _ (Nat.le_refl _) rfl rfl ?_)
    all_goals
      have HB3 := Lib.hid HE2.out.1
      have HH3 := Lib.hid HE2.out.2.2
      have HU3 := Lib.hid (Upd.ofBelow' (S := (fun j => j = b ∨ (Value.slice (some ⟨g, 0, none⟩) fs.length ac).ownBlock = some j)) HB2.out)
      have HR0 : Hid (Emc (w2.setCell ⟨b, 1, none⟩ (Value.slice (some ⟨g, 0, none⟩) k k)) b id (Value.slice (some ⟨g, 0, none⟩) k k) (.slice ha hs.length hc) (fs.eraseIdx k) hs ∧ Upd (fun j => j = b ∨ (Value.slice (some ⟨g, 0, none⟩) fs.length ac).ownBlock = some j) w (w2.setCell ⟨b, 1, none⟩ (Value.slice (some ⟨g, 0, none⟩) k k))) := by
        have hUs := (Upd.refl (· = b) w2).setCell (p := ⟨b, 1, none⟩) (fun _ => rfl) (Value.slice (some ⟨g, 0, none⟩) k k)
        exact ⟨⟨hset HB3.out 1 _, HL3.out.upd hUs (fun j hj e => by simp [Value.ownBlock] at hj; exact hgb (by omega)), HH3.out.upd hUs (fun j hj => (HV.out j hj).1)⟩, HU3.out.setCell (p := ⟨b, 1, none⟩) (fun _ => .inl rfl) _⟩
      have HR : Hid (Emc (w2.setCell ⟨b, 1, none⟩ (Value.slice (some ⟨g, 0, none⟩) k k)).drew b id (Value.slice (some ⟨g, 0, none⟩) k k) (.slice ha hs.length hc) (fs.eraseIdx k) hs ∧ Upd (fun j => j = b ∨ (Value.slice (some ⟨g, 0, none⟩) fs.length ac).ownBlock = some j) w (w2.setCell ⟨b, 1, none⟩ (Value.slice (some ⟨g, 0, none⟩) k k)).drew) := ⟨⟨HR0.out.1.1, HR0.out.1.2.1.keep (fun _ _ => rfl), HR0.out.1.2.2.keep (fun _ _ => rfl)⟩, HR0.out.2.drew⟩
      clear HR0
      go_wp2_with fail
      all_goals
        refine (frame_zero b id (Value.slice (some ⟨g, 0, none⟩) k k) (.slice ha hs.length hc) (fs.eraseIdx k) hs i _ HR.out.1).mono ?_
        rintro e w6 ⟨g6, rfl, hgg, hF, hb6⟩
        have HF6 := Lib.hid hF
        have HE6 := Lib.hid (HR.out.1.below hb6)
        have HU6 := Lib.hid (HR.out.2.trans (Upd.ofBelow' (S := fun _ => False) hb6) (fun _ _ h => h.elim))
        have s6 := HR.out.2.size
        clear hF hb6 HR
        go_wp2_with fail
        go_ret
        refine ⟨g6, _, rfl, by omega, HF6.out.mono s6, HE6.out, HU6.out, fun j hj => ?_⟩
        simp [Value.ownBlock] at hj
        left; simp [Value.ownBlock]; omega
  · have hm1 : k + 1 < fs.length := by omega
    have hac3 : ¬ ac = k + 1 := by omega
    have hfe : fs.eraseIdx k = fs.take k ++ fs.drop (k + 1) := List.eraseIdx_eq_take_drop_succ ..
    have hlk : (fs.take k).length = k := by rw [List.length_take]; omega
    have hld : (fs.drop (k + 1)).length = fs.length - (k + 1) := List.length_drop ..
    have e3 : fvals fs = fvals (fs.take k) ++ fvals (fs.drop k) := by rw [← fvals_append, List.take_append_drop]
    have HLk : Hid (Lax w2.drew 64 2 (.slice (some ⟨g, 0, none⟩) k k) k (fvals (fs.take k))) := by
      have hl := HE2.out.2.1
      refine ⟨by rw [fvals_len, hlk], ?_⟩
      rcases hl.2 with ⟨h0, _⟩ | ⟨g', cap, cur, e1, hh, h1, h2, h3, h4⟩
      · cases h0
      · cases e1
        refine .inr ⟨g, k, cur, rfl, hh, Nat.le_refl _, by omega, by omega, ?_⟩
        rw [e3] at h4
        have e4 := congrArg (List.take (k * 2)) h4
        rw [List.take_take, show min (k * 2) (fs.length * 2) = k * 2 from by omega, List.take_left' (by rw [fvals_len, hlk])] at e4
        exact e4
    have HNW : Hid (∀ j u, (fvals (fs.drop (k + 1)))[j]? = some u → w2.drew.cell? ((⟨g, (k + 1) * 2, none⟩ : Addr).add j) = some u) := by
      intro j u hu
      rw [Addr.add_lit]
      have e5 : (fvals fs)[(k + 1) * 2 + j]? = some u := by
        have e6 : fvals fs = fvals (fs.take (k + 1)) ++ fvals (fs.drop (k + 1)) := by rw [← fvals_append, List.take_append_drop]
        have e7 : (fvals (fs.take (k + 1))).length = (k + 1) * 2 := by rw [fvals_len, List.length_take]; omega
        rw [e6, List.getElem?_append_right (by omega), e7, Nat.add_sub_cancel_left]
        exact hu
      exact HE2.out.2.1.cell e5
    have HNL : Hid ((fvals (fs.drop (k + 1))).length = (fs.length - (k + 1)) * 2) := by show _ = _; rw [fvals_len, hld]
    have HN1 : Hid (∀ u ∈ fvals (fs.drop (k + 1)), u.oneCell' = true) := by
      intro u hu
      simp [fvals] at hu
      obtain ⟨p, q, _, h | h⟩ := hu <;> subst h <;> rfl
    have hmm : k + (fs.length - (k + 1)) ≤ maxLen := by omega
    have hmb : (k + (fs.length - (k + 1))) * 16 ≤ 140737488355328 := by omega
    have hmp : 0 < fs.length - (k + 1) := by omega
    have HM := Lib.hid (And.intro hmm (And.intro hmb hmp))
    clear hm hmm hmb hmp
    go_wp2_with fail
    go_region_law (refine step_append_lax rfl (.tmp 29) (.tmp 36) 60 rfl 64 (.agg #[.int .i64 0, .int .i64 0]) 2 16 Try.underlying60 info64 rfl (by decide) (.slice (some ⟨g, 0, none⟩) k k) k (fvals (fs.take k)) rfl HLk.out ⟨g, (k + 1) * 2, none⟩ (fs.length - (k + 1)) (ac - (k + 1)) (fvals (fs.drop (k + 1))) rfl HNL.out HNW.out HN1.out HM.out.2.2 HM.out.1 HM.out.2.1 ?_; intro g3 cap3 w3 hl3 hg3 hd3; have q0 : w3.heap[b]? = some (.cells #[.int .i64 id, .slice (some ⟨g, 0, none⟩) fs.length ac, .slice ha hs.length hc] 62 (0, 0)) := (hg3.block b (by show b < w2.heap.size; omega) (fun e => hgb (by simp [Value.ownBlock] at e; omega))).trans HE2.out.1; have q1 := (cells3' q0).2.1; have q2 := free_of q0 1)
    all_goals
      have hd3' : g3 = g ∨ g3 = w2.heap.size := hd3.imp (fun e => by simp [Value.ownBlock] at e; omega) (fun e => e)
      have hg3b : g3 ≠ b := by rcases hd3' with h | h; (· omega); (· omega)
      have hle : (fs.eraseIdx k).length = k + (fs.length - (k + 1)) := by rw [HLEN.out]; omega
      have HB3 := Lib.hid q0
      have HL3 : Hid (Lax w3 64 2 (.slice (some ⟨g3, 0, none⟩) (k + (fs.length - (k + 1))) cap3) (fs.eraseIdx k).length (fvals (fs.eraseIdx k))) := by
        rw [hle, hfe, fvals_append]; exact hl3
      have HH3 : Hid (Lax w3 45 1 (.slice ha hs.length hc) hs.length (uv hs)) := HE2.out.2.2.keep (fun j hj => hg3.block j (HE2.out.2.2.lt j hj).1 (fun e => (HV.out j hj).2 (by simp [Value.ownBlock] at e ⊢; omega)))
      have HU3 : Hid (Upd (fun j => j = b ∨ (Value.slice (some ⟨g, 0, none⟩) fs.length ac).ownBlock = some j) w w3) := ((Upd.ofBelow' (S := (fun j => j = b ∨ (Value.slice (some ⟨g, 0, none⟩) fs.length ac).ownBlock = some j)) HB2.out).drew).grown hg3 (fun j e hj => .inr (by simp [Value.ownBlock] at e ⊢; omega))
      have HR0 : Hid (Emc (w3.setCell ⟨b, 1, none⟩ (Value.slice (some ⟨g3, 0, none⟩) (k + (fs.length - (k + 1))) cap3)) b id (Value.slice (some ⟨g3, 0, none⟩) (k + (fs.length - (k + 1))) cap3) (.slice ha hs.length hc) (fs.eraseIdx k) hs ∧ Upd (fun j => j = b ∨ (Value.slice (some ⟨g, 0, none⟩) fs.length ac).ownBlock = some j) w (w3.setCell ⟨b, 1, none⟩ (Value.slice (some ⟨g3, 0, none⟩) (k + (fs.length - (k + 1))) cap3))) := by
        have hUs := (Upd.refl (· = b) w3).setCell (p := ⟨b, 1, none⟩) (fun _ => rfl) (Value.slice (some ⟨g3, 0, none⟩) (k + (fs.length - (k + 1))) cap3)
        exact ⟨⟨hset HB3.out 1 _, HL3.out.upd hUs (fun j hj e => by simp [Value.ownBlock] at hj; exact hg3b (by omega)), HH3.out.upd hUs (fun j hj => (HV.out j hj).1)⟩, HU3.out.setCell (p := ⟨b, 1, none⟩) (fun _ => .inl rfl) _⟩
      have HR : Hid (Emc (w3.setCell ⟨b, 1, none⟩ (Value.slice (some ⟨g3, 0, none⟩) (k + (fs.length - (k + 1))) cap3)) b id (Value.slice (some ⟨g3, 0, none⟩) (k + (fs.length - (k + 1))) cap3) (.slice ha hs.length hc) (fs.eraseIdx k) hs ∧ Upd (fun j => j = b ∨ (Value.slice (some ⟨g, 0, none⟩) fs.length ac).ownBlock = some j) w (w3.setCell ⟨b, 1, none⟩ (Value.slice (some ⟨g3, 0, none⟩) (k + (fs.length - (k + 1))) cap3))) := ⟨HR0.out.1, HR0.out.2⟩
      clear HR0
      go_wp2_with fail
      refine (frame_zero b id (Value.slice (some ⟨g3, 0, none⟩) (k + (fs.length - (k + 1))) cap3) (.slice ha hs.length hc) (fs.eraseIdx k) hs i _ HR.out.1).mono ?_
      rintro e w6 ⟨g6, rfl, hgg, hF, hb6⟩
      have HF6 := Lib.hid hF
      have HE6 := Lib.hid (HR.out.1.below hb6)
      have HU6 := Lib.hid (HR.out.2.trans (Upd.ofBelow' (S := fun _ => False) hb6) (fun _ _ h => h.elim))
      have s6 := HR.out.2.size
      clear hF hb6 HR
      go_wp2_with fail
      go_ret
      refine ⟨g6, _, rfl, by omega, HF6.out.mono s6, HE6.out, HU6.out, fun j hj => ?_⟩
      simp [Value.ownBlock] at hj
      rcases hd3' with h | h
      · left; simp [Value.ownBlock]; omega
      · right; omega
end Go.Proofs.Ytlhbgikgaoeciaa
