/-
  CONTRACT of the reference's Peers.
-/
import Derived.Test.YtpnnmcicpjebmaaRRecvH
set_option linter.unusedSimpArgs false
set_option linter.unusedVariables false
namespace Go.Proofs.Ytpnnmcicpjebmaa
open Go.RowKit
attribute [local go_sem] Oper.semAt_some

theorem wrR_big (us : List Nat) : ∀ (met : List Nat) (e : Int), (∃ u ∈ us, 8388608 ≤ u) → wrR us met e = 4 := by
  induction us with
  | nil => intro met e ⟨u, h, _⟩; cases h
  | cons v us ih =>
    intro met e ⟨u, hu, hb⟩
    unfold wrR
    by_cases c : 8388608 ≤ v
    · rw [if_pos c]
    · rw [if_neg c]
      have : ∃ u ∈ us, 8388608 ≤ u := by
        rcases List.mem_cons.1 hu with rfl | h
        · exact absurd hb c
        · exact ⟨u, h, hb⟩
      split <;> exact ih _ _ this
theorem wrR_13 (us : List Nat) : ∀ (met : List Nat), (∀ u ∈ us, u < 8388608) → wrR us met 13 = 13 := by
  induction us with
  | nil => intro met _; rfl
  | cons v us ih =>
    intro met h
    unfold wrR
    have hv := h v (List.mem_cons_self ..)
    rw [if_neg (by omega)]
    have h' : ∀ u ∈ us, u < 8388608 := fun u hu => h u (List.mem_cons_of_mem _ hu)
    by_cases c : waOk v
    · rw [if_pos c]
      by_cases d : v / 65536 ∈ met
      · rw [if_pos d]; exact ih _ h'
      · rw [if_neg d]; exact ih _ h'
    · rw [if_neg c]; exact ih _ h'
theorem wrR_step {u : Nat} {us met : List Nat} (h : u < 8388608) (e : Int) : wrR (u :: us) met e = if waOk u then wrR us (u / 65536 :: met) (if u / 65536 ∈ met then 13 else e) else wrR us met e := by
  conv => lhs; unfold wrR
  rw [if_neg (by omega)]

theorem rpeer_shape {W : World} {base n : Nat} {v : Value} {xs : List Value} (h : W.ownsRow base 99 4 v n xs) : ∃ a cap, v = .slice a n cap := by
  rcases h.2 with ⟨rfl, rfl⟩ | ⟨g, cap, cur, rfl, _⟩
  · exact ⟨none, 0, rfl⟩
  · exact ⟨_, cap, rfl⟩
theorem info99 : (Try.prog.info? 99).map (fun i => (i.zero, i.size, i.bytes)) = some (some (.agg #[.int .i64 0, .int .i64 0, .int .i64 0, .int .i64 0]), 4, 32) := by kernel_rfl
/-- The nodes that were met. -/
def MetP (met : List Nat) (L : List Pr) : Prop := ∀ x : Nat, x ∈ met ↔ ∃ p ∈ L, p.node = (x : Int)

set_option maxRecDepth 100000 in
set_option maxHeartbeats 8000000 in
theorem rpeers_any (b : Nat) (n ev le : Int) (pa : Option Addr) (pl pc : Nat) (us : List Nat) (a : Option Addr) (cap : Nat) (w : World) (hH : RHrt w b n ev le (.slice pa pl pc)) (hl : (us.length : Int) ≤ 9223372036854775807) (hU : U32s w a us) :
    Calls Try.prog 44 #[.pointer (some ⟨b, 0, none⟩), .slice a us.length cap] w fun e w' => e = .returned (.int .i64 (wrE us)) ∧ Upd (· = b) w w' ∧
      ((wrE us ≠ 0 ∧ RHrt w' b n ev le (.slice pa pl pc)) ∨ (wrE us = 0 ∧ ∃ v, RHrt w' b n ev le v ∧ w'.ownsRow w.heap.size 99 4 v (mkP us).length (rvals (mkP us)))) := by
  have HH := Lib.hid hH
  have HU := Lib.hid hU
  have hbw := hH.lt
  clear hH hU
  by_cases hbig : 4 < us.length
  · have d1 : (4 : Int) < (us.length : Int) := by omega
    have hE : wrE us = 3 := by unfold wrE; rw [if_pos hbig]
    rw [hE]
    clear hE hbig
    go_enter Try.func44, Try.ntmps44
    go_wp2_with fail
    go_ret
    exact ⟨rfl, Upd.refl _ _, .inl ⟨by decide, HH.out⟩⟩
  have d0 : ¬ (4 : Int) < (us.length : Int) := by omega
  have hul : us.length ≤ 4 := by omega
  have hE : wrE us = wrR us [] 0 := by unfold wrE; rw [if_neg hbig]
  have HE := Lib.hid hE
  clear hE hbig
  go_enter Try.func44, Try.ntmps44
  go_wp2_with fail
  go_loopg [6] us.length (fun gg i wr => ∃ k : Nat, k ≤ us.length ∧ gg = us.length - k ∧ i = .int .i64 k ∧ wr = w ∧ ∀ j (h : j < us.length), j < k → us[j] < 8388608)
  case atStart => exact ⟨0, by omega, by omega, rfl, rfl, fun j _ h => absurd h (Nat.not_lt_zero _)⟩
  case round =>
    obtain ⟨k, hk, hgk, rfl, hwr, hsm⟩ := hrel
    obtain rfl : w = wr := hwr.symm
    clear hwr
    have HG := Lib.hid hgk
    have HSM := Lib.hid hsm
    clear hgk hsm
    by_cases hk1 : k < us.length
    · have d1 : (k : Int) < (us.length : Int) := by omega
      obtain ⟨wb, off, rfl, hbl2, hc, hu32⟩ := HU.out.at hk1
      have hmem : us[k] ∈ us := List.getElem_mem hk1
      obtain ⟨u, hue⟩ : ∃ u, us[k] = u := ⟨_, rfl⟩
      rw [hue] at hc hu32 hmem
      have HUE := Lib.hid hue
      clear hue
      have hu0 : (0 : Int) ≤ (u : Int) := by omega
      have hu1 : (u : Int) < 4294967296 := by omega
      by_cases hb : 8388608 ≤ u
      · have d2 : (8388608 : Int) ≤ (u : Int) := by omega
        have hE : wrE us = 4 := by rw [HE.out]; exact wrR_big us [] 0 ⟨u, hmem, hb⟩
        have HE4 := Lib.hid hE
        clear hE hmem
        go_wp2_with fail
        go_ret
        rw [HE4.out]
        exact ⟨rfl, Upd.refl _ _, .inl ⟨by decide, HH.out⟩⟩
      · have d2 : ¬ (8388608 : Int) ≤ (u : Int) := by omega
        clear hmem
        go_wp2_with fail
        go_roundg (us.length - (k + 1))
        case measure => have := HG.out; omega
        case rel =>
          refine ⟨k + 1, by omega, rfl, by go_num, rfl, fun j hj hjk => ?_⟩
          by_cases e : j = k
          · subst e; rw [HUE.out]; omega
          · exact HSM.out j hj (by omega)
    · obtain rfl : k = us.length := by omega
      have hall : ∀ u ∈ us, u < 8388608 := fun u hu => by
        obtain ⟨j, hj, rfl⟩ := List.getElem_of_mem hu
        exact HSM.out j hj hj
      have HALL := Lib.hid hall
      clear hall
      go_wp2_with fail
      go_loopg [5, 7] us.length (fun gg v i wr2 => ∃ k : Nat, k ≤ us.length ∧ gg = us.length - k ∧ i = .int .i64 k ∧ wr2.ownsRow w.heap.size 99 4 v (mkP (us.take k)).length (rvals (mkP (us.take k))) ∧ Upd (fun _ => False) w wr2 ∧ ∃ met, wrR (us.drop k) met 0 = wrE us ∧ MetP met (mkP (us.take k)))
      case atStart => exact ⟨0, by omega, by omega, rfl, by simpa [mkP, rvals] using World.ownsRow_nil w w.heap.size 99 4, Upd.refl _ _, [], by rw [HE.out]; rfl, by intro x; simp [mkP]⟩
      case round =>
        obtain ⟨k, hk, hgk, rfl, hown, hUp, met, hR, hM⟩ := hrel
        obtain ⟨ao, ac, rfl⟩ := rpeer_shape hown
        have HG := Lib.hid hgk
        have HO := Lib.hid hown
        have HUp := Lib.hid hUp
        have HR := Lib.hid hR
        have HM := Lib.hid hM
        have hww := hUp.size
        clear hgk hown hUp hR hM
        by_cases hk1 : k < us.length
        · have d1 : (k : Int) < (us.length : Int) := by omega
          obtain ⟨wb, off, rfl, hbl2, hc, hu32⟩ := (HU.out.below (HUp.out.toBelow (Nat.le_refl _) (fun _ _ h => h))).at hk1
          have HT1 := Lib.hid (mkP_take us k hk1)
          have hml := mkP_len (us.take k)
          have hml2 : (us.take k).length ≤ us.length := List.length_take_le' _ _
          have hsm : us[k] < 8388608 := HALL.out _ (List.getElem_mem hk1)
          have hR2 := HR.out
          rw [List.drop_eq_getElem_cons hk1, wrR_step hsm] at hR2
          have hall2 : ∀ u ∈ us.drop (k + 1), u < 8388608 := fun u hu => HALL.out u (List.mem_of_mem_drop hu)
          obtain ⟨u, hue⟩ : ∃ u, us[k] = u := ⟨_, rfl⟩
          rw [hue] at hc hu32 HT1 hsm hR2
          have HALL2 := Lib.hid hall2
          clear hue hall2
          obtain ⟨L, hL⟩ : ∃ L, mkP (us.take k) = L := ⟨_, rfl⟩
          rw [hL] at HO HM HT1 hml ⊢
          go_wp2_with fail
          refine (rwatch_any u hu32 _).mono ?_
          rintro e w2 ⟨rfl, rfl⟩
          by_cases c2 : waOk u
          · have e1 : waN u = ((u / 65536 : Nat) : Int) := by unfold waN; rw [if_pos c2]
            have e2 : waT u = ((u % 65536 : Nat) : Int) := by unfold waT; rw [if_pos c2]
            rw [decide_eq_true c2, e1, e2]
            rw [if_pos c2] at HT1 hR2
            have HR2 := Lib.hid hR2
            obtain ⟨nn, hnn⟩ : ∃ nn : Nat, u / 65536 = nn := ⟨_, rfl⟩
            rw [hnn] at HT1 HR2 ⊢
            generalize hT : ((u % 65536 : Nat) : Int) = T at *
            clear c2 e1 e2 hnn hT hR2 hsm
            obtain ⟨a1, c1, g1, hsl, hP, _⟩ := RPrAt.of_own (n := 0) HO.out
            injection hsl with hsl1 hsl2 hsl3
            subst hsl1 hsl3
            have HP := Lib.hid hP
            clear hP
            go_wp2_with fail
            go_loopg [11] L.length (fun gg i wr3 => ∃ j : Nat, j ≤ L.length ∧ gg = L.length - j ∧ i = .int .i64 j ∧ wr3 = wr ∧ ∀ i p, i < j → L[i]? = some p → p.node ≠ (nn : Int))
            case atStart => exact ⟨0, by omega, by omega, rfl, rfl, fun i p h => absurd h (Nat.not_lt_zero _)⟩
            case round =>
              obtain ⟨j, hj, hgj, rfl, hwr, hny⟩ := hrel
              subst hwr
              have HGJ := Lib.hid hgj
              have HN := Lib.hid hny
              clear hgj hny
              by_cases hjl : j < L.length
              · have d2 : (j : Int) < (L.length : Int) := by omega
                have hpj : L[j]? = some L[j] := List.getElem?_eq_getElem hjl
                have hmem : L[j] ∈ L := List.getElem_mem hjl
                obtain ⟨p, hpe⟩ : ∃ p, L[j] = p := ⟨_, rfl⟩
                rw [hpe] at hpj hmem
                obtain ⟨q0, q1, q2, q3⟩ := HP.out.cell hpj
                obtain rfl : ao = some ⟨g1, 0, none⟩ := by rcases HP.out.where_ with h | h; (· omega); (· exact h)
                have HPJ := Lib.hid hpj
                have HME := Lib.hid hmem
                obtain ⟨x, hx⟩ : ∃ x, p.node = x := ⟨_, rfl⟩
                rw [hx] at q0
                have HX := Lib.hid hx
                clear hpj hmem hpe q1 q2 q3 hx
                by_cases hxn : x = (nn : Int)
                · have hin : nn ∈ met := (HM.out nn).2 ⟨p, HME.out, HX.out.trans hxn⟩
                  have h13 : wrE us = 13 := by
                    have := HR2.out
                    rw [if_pos hin, wrR_13 _ _ HALL2.out] at this
                    exact this.symm
                  have H13 := Lib.hid h13
                  have hxb : (x == (nn : Int)) = true := by rw [beq_iff_eq]; exact hxn
                  clear hin h13 hxn
                  go_wp2_with fail
                  go_ret
                  rw [H13.out]
                  exact ⟨rfl, HUp.out.mono (fun _ _ h => h.elim), .inl ⟨by decide, HUp.out.block_some HH.out (fun h => h)⟩⟩
                · have hxb : (x == (nn : Int)) = false := by rw [beq_eq_false_iff_ne]; exact hxn
                  have HXN := Lib.hid hxn
                  clear hxn
                  go_wp2_with fail
                  go_roundg (L.length - (j + 1))
                  case measure => have := HGJ.out; omega
                  case rel =>
                    refine ⟨j + 1, by omega, rfl, by go_num, rfl, fun i p' hi hp' => ?_⟩
                    by_cases e : i = j
                    · subst e
                      have := HPJ.out
                      rw [hp'] at this
                      cases this
                      rw [HX.out]; exact HXN.out
                    · exact HN.out i p' (by omega) hp'
              · obtain rfl : j = L.length := by omega
                have hnin : nn ∉ met := fun h => by
                  obtain ⟨p, hp, hpn⟩ := (HM.out nn).1 h
                  obtain ⟨i, hi, rfl⟩ := List.getElem_of_mem hp
                  exact HN.out i _ hi (List.getElem?_eq_getElem hi) hpn
                have HR3 := HR2.out
                rw [if_neg hnin] at HR3
                have HR3 := Lib.hid HR3
                clear hnin
                go_wp2_with (at_builtin; refine wpList_append_any rfl (.tmp 57) (.tmp 61) 95 rfl w.heap.size 99 (.agg #[.int .i64 0, .int .i64 0, .int .i64 0, .int .i64 0]) 4 32 Try.underlying95 info99 rfl (by decide) _ _ _ rfl (HO.out.alloc _) (some ⟨wr.heap.size, 0, none⟩) 1 1 [.int .i64 nn, .int .i64 T, .int .i64 (-1), .int .i64 0] rfl (fun h => by cases h) (by simp) ?c1 ?c2 ?c3 ?c4 ?c5 ?_)
                case c1 =>
                  intro ad e i x hx
                  cases e
                  have hnew : (wr.alloc (.cells #[.int .i64 nn, .int .i64 T, .int .i64 (-1), .int .i64 0] 99)).heap[wr.heap.size]? = some (.cells #[.int .i64 nn, .int .i64 T, .int .i64 (-1), .int .i64 0] 99 (0, 0)) := heap_alloc_new _ _
                  obtain ⟨n0, n1, n2, n3⟩ := cells4 hnew
                  rw [Addr.add_lit, Nat.zero_add]
                  match i, hx with
                  | 0, hx => simp at hx; subst hx; exact n0
                  | 1, hx => simp at hx; subst hx; exact n1
                  | 2, hx => simp at hx; subst hx; exact n2
                  | 3, hx => simp at hx; subst hx; exact n3
                case c2 => intro x hx; simp at hx; rcases hx with rfl | rfl | rfl | rfl <;> rfl
                case c3 => unfold maxLen; omega
                case c4 => omega
                case c5 => simp; omega
                intro v' w1 hown' hg
                obtain ⟨a', cap', rfl⟩ := rpeer_shape hown'
                have HO3 := Lib.hid hown'
                have HU3 : Hid (Upd (fun _ => False) w w1) := ((HUp.out.alloc _)).grown hg (fun i e hi => by have := (HO.out.lt i e).1; omega)
                clear hown' hg
                go_wp2_with fail
                go_roundg (us.length - (k + 1))
                case measure => have := HG.out; omega
                case rel =>
                  refine ⟨k + 1, by omega, rfl, by go_num, ?_, HU3.out, nn :: met, HR3.out, fun x => ?_⟩
                  · rw [HT1.out, rvals_snoc, List.length_append]
                    exact HO3.out
                  · rw [HT1.out]
                    simp only [List.mem_cons, List.mem_append, List.not_mem_nil, or_false]
                    constructor
                    · rintro (rfl | h)
                      · exact ⟨_, .inr rfl, rfl⟩
                      · obtain ⟨p, hp, hpn⟩ := (HM.out x).1 h
                        exact ⟨p, .inl hp, hpn⟩
                    · rintro ⟨p, hp | rfl, hpn⟩
                      · exact .inr ((HM.out x).2 ⟨p, hp, hpn⟩)
                      · left; simp only at hpn; omega
          · have e1 : waN u = 0 := by unfold waN; rw [if_neg c2]
            have e2 : waT u = 0 := by unfold waT; rw [if_neg c2]
            rw [decide_eq_false c2, e1, e2]
            rw [if_neg c2, List.append_nil] at HT1
            rw [if_neg c2] at hR2
            have HR2 := Lib.hid hR2
            clear c2 e1 e2 hR2
            go_wp2_with fail
            go_roundg (us.length - (k + 1))
            case measure => have := HG.out; omega
            case rel =>
              refine ⟨k + 1, by omega, rfl, by go_num, ?_, HUp.out, met, HR2.out, fun x => ?_⟩
              · rw [HT1.out]; exact HO.out
              · rw [HT1.out]; exact HM.out x
        · obtain rfl : k = us.length := by omega
          have hR2 := HR.out
          rw [List.drop_length] at hR2
          have hE0 : wrE us = 0 := hR2.symm
          have hown := HO.out
          rw [List.take_length] at hown ⊢
          have HE0 := Lib.hid hE0
          have HHr : Hid (RHrt wr b n ev le (.slice pa pl pc)) := HUp.out.block_some HH.out (fun h => h)
          obtain ⟨c0, c1, c2, c3⟩ := HHr.out.cells
          have f3 := free_of HHr.out 3
          have hblr := HHr.out.lt
          have HO4 := Lib.hid hown
          clear hR2 hE0 hown
          go_wp2_with fail
          go_ret
          rw [HE0.out]
          exact ⟨rfl, (HUp.out.mono (T := (· = b)) (fun _ _ h => h.elim)).setCell (p := ⟨b, 3, none⟩) (fun _ => rfl) _, .inr ⟨rfl, _, hset HHr.out 3 _, ownsRow_setCell_below HO4.out (a := ⟨b, 3, none⟩) (by simp; omega) _⟩⟩
end Go.Proofs.Ytpnnmcicpjebmaa
