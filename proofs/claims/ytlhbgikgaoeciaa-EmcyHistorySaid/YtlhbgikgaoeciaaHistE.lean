/-
  LAW EmcyHistory: the walk.
-/
import Derived.Test.YtlhbgikgaoeciaaEmcK
import Derived.BigQuiet
import Derived.Deep.QuietTactic
set_option linter.unusedSimpArgs false
set_option linter.unusedVariables false
namespace Go.Proofs.Ytlhbgikgaoeciaa
open Go.RowKit
attribute [local go_sem] Oper.semAt_some

/-- A slice of codes. -/
def U16s (w : World) (a : Option Addr) (us : List Nat) : Prop :=
  (∀ u ∈ us, u < 65536) ∧ (us = [] ∨ ∃ b off, a = some ⟨b, off, none⟩ ∧ ∀ i (h : i < us.length), w.cell? ⟨b, off + i, none⟩ = some (.int .u16 (us[i] : Int)))
theorem U16s.at {w : World} {a : Option Addr} {us : List Nat} (h : U16s w a us) {k : Nat} (hk : k < us.length) : ∃ b off, a = some ⟨b, off, none⟩ ∧ b < w.heap.size ∧ w.cell? ⟨b, off + k, none⟩ = some (.int .u16 (us[k] : Int)) ∧ us[k] < 65536 := by
  rcases h.2 with rfl | ⟨b, off, rfl, hc⟩
  · simp at hk
  · exact ⟨b, off, rfl, World.block_lt_of_cell? w _ (hc k hk), hc k hk, h.1 _ (List.getElem_mem hk)⟩
theorem U16s.below {w w' : World} {a : Option Addr} {us : List Nat} (h : U16s w a us) (hb : Below w.heap.size w w') : U16s w' a us := by
  refine ⟨h.1, ?_⟩
  rcases h.2 with h | ⟨b, off, rfl, hc⟩
  · exact .inl h
  · exact .inr ⟨b, off, rfl, fun i hi => (hb.cell (World.block_lt_of_cell? w _ (hc i hi))).trans (hc i hi)⟩
theorem IsRow.u16s {w : World} {a : Option Addr} {len cap : Nat} {zs : List Int} (h : IsRow .u16 w a len cap zs) : ∃ us : List Nat, us.length = len ∧ U16s w a us ∧ len ≤ maxLen := by
  rcases h with ⟨rfl, rfl, rfl, rfl⟩ | ⟨x, rfl, hl, hm, hz, hc, hw⟩
  · exact ⟨[], rfl, ⟨by simp, .inl rfl⟩, Nat.zero_le _⟩
  · have hb : ∀ z ∈ zs, z = (z.toNat : Int) ∧ z.toNat < 65536 := fun z hz' => by
      obtain ⟨b1, b2⟩ := wf_bounds (hw z hz')
      rw [show IntKind.u16.min = 0 from rfl] at b1
      rw [show IntKind.u16.max = 65535 from rfl] at b2
      omega
    refine ⟨(zs.take len).map Int.toNat, by simp; omega, ⟨fun u hu => ?_, ?_⟩, by omega⟩
    · obtain ⟨z, hz', rfl⟩ := List.mem_map.1 hu
      exact (hb z (List.mem_of_mem_take hz')).2
    · by_cases h0 : len = 0
      · exact .inl (by simp [h0])
      · have hsp := World.cell?_spot (hc 0 (by omega))
        obtain ⟨b, off, spot⟩ := x
        have : spot = none := by simpa [Addr.add] using hsp
        subst this
        refine .inr ⟨b, off, rfl, fun i hi => ?_⟩
        have hi2 : i < zs.length := by simp at hi; omega
        have := hc i hi2
        rw [Addr.add_lit] at this
        rw [this]
        have hg : zs.getD i 0 = zs[i] := by simp [List.getD, hi2]
        have h2 := (hb zs[i] (List.getElem_mem hi2)).1
        rw [hg]
        simp
        omega

theorem bitC_ne {c : Int} (h : 1 ≤ c ∧ c ≤ 65535) : bitC c ≠ 0 := by
  unfold bitC
  rw [if_pos h]
  (repeat' split) <;> omega

/-- Behind k codes. -/
def HistI (w : World) (B k : Nat) (v : Value) (av hv : Value) (fs : List (Int × Int)) (ts : List Int) (wr : World) : Prop :=
  Emc wr B 255 av hv fs (ts.reverse.take 4) ∧ Lax wr 45 1 v ts.length (uv ts) ∧ fs.length = ts.length ∧ ts.length ≤ 64 ∧ (∀ p ∈ fs, p.2 < (k : Int)) ∧ (∀ j, hv.ownBlock = some j → v.ownBlock ≠ some j) ∧
    Below w.heap.size w wr ∧ w.heap.size ≤ B ∧ (∀ j, av.ownBlock = some j → w.heap.size ≤ j) ∧ (∀ j, v.ownBlock = some j → w.heap.size ≤ j)

theorem HistI.below {w wr w' : World} {B k k' : Nat} {v av hv : Value} {fs : List (Int × Int)} {ts : List Int} (h : HistI w B k v av hv fs ts wr) (hb : Below wr.heap.size wr w') (hk : k ≤ k') : HistI w B k' v av hv fs ts w' := by
  obtain ⟨h1, h2, h3, h4, h5, h6, h7, h8⟩ := h
  exact ⟨h1.below hb, h2.below hb, h3, h4, fun p hp => by have := h5 p hp; omega, h6, h7.trans (hb.mono h7.size), h8⟩

theorem take4 {α : Type} (x : α) (l : List α) : (x :: l.take 4).take 4 = (x :: l).take 4 := by
  simp [List.take_succ_cons, List.take_take]
theorem Emc.upd {S : Nat → Prop} {w w' : World} {b : Nat} {id : Int} {av hv : Value} {fs : List (Int × Int)} {hs : List Int} (h : Emc w b id av hv fs hs) (hu : Upd S w w') (h1 : ¬ S b) (h2 : ∀ j, av.ownBlock = some j → ¬ S j) (h3 : ∀ j, hv.ownBlock = some j → ¬ S j) : Emc w' b id av hv fs hs :=
  ⟨hu.block_some h.1 h1, h.2.1.upd hu h2, h.2.2.upd hu h3⟩
theorem lax_type {w : World} {e size n k t : Nat} {v : Value} {xs : List Value} {cs : Array Value} (h : Lax w e size v n xs) (hk : v.ownBlock = some k) (hc : w.heap[k]? = some (.cells cs t (0, 0))) : t = e := by
  obtain ⟨_, cur, hcur⟩ := h.lt k hk
  rw [hcur] at hc
  injection hc with hc
  injection hc with _ e2
  exact e2.symm

set_option maxRecDepth 100000 in
set_option maxHeartbeats 8000000 in
theorem ehist_walk (us : List Nat) (a : Option Addr) (cap : Nat) (w : World) (hl : (us.length : Int) ≤ 9223372036854775807) (hU : U16s w a us) :
    Calls Try.prog 5 #[.slice a us.length cap] w fun e w' => e = .returned (.bool true) ∧ Below w.heap.size w w' := by
  have HU := Lib.hid hU
  clear hU
  go_enter Try.func5, Try.ntmps5
  go_wp2_with fail
  refine (new_ok 127 _ (by omega)).mono ?_
  rintro e w1 ⟨B, rfl, hB1, hE1, hb1⟩
  have HI : Hid (HistI w B 0 (.slice none 0 0) (.slice none 0 0) (.slice none 0 0) [] [] w1) :=
    ⟨hE1, ⟨rfl, .inl ⟨rfl, rfl⟩⟩, rfl, by simp, by simp, (fun j hj => by cases hj), hb1, hB1, (fun j hj => by cases hj), (fun j hj => by cases hj)⟩
  clear hE1 hb1
  go_wp2_with fail
  go_loopg [5, 6] 100 (fun gg v i wr => ∃ k : Nat, k ≤ 100 ∧ gg = 100 - k ∧ i = .int .i64 k ∧ ∃ av hv fs ts, HistI w B k v av hv fs ts wr)
  case atStart => exact ⟨0, by omega, by omega, rfl, _, _, _, _, HI.out⟩
  case round =>
    obtain ⟨k, hk, hgk, rfl, av, hv, fs, ts, hH⟩ := hrel
    have HG := Lib.hid hgk
    obtain ⟨ta, tc, rfl, _, htc, htm⟩ := hH.2.1.shape
    have HH := Lib.hid hH
    have hlen := hH.2.2.1
    have ht64 := hH.2.2.2.1
    have hwr := hH.2.2.2.2.2.2.1.size
    clear hgk hH HI
    by_cases hk1 : k < us.length ∧ k < 100
    · obtain ⟨hk1, hk2⟩ := hk1
      have d1 : (k : Int) < (us.length : Int) := by omega
      have d2 : (k : Int) < 100 := by omega
      obtain ⟨cb, off, rfl, hcb, hc, hu⟩ := HU.out.at hk1
      have hcr : wr.cell? ⟨cb, off + k, none⟩ = some (.int .u16 (us[k] : Int)) := (HH.out.2.2.2.2.2.2.1.cell (by exact hcb)).trans hc
      generalize us[k] = u at *
      have hu0 : (0 : Int) ≤ (u : Int) := by omega
      have hu1 : (u : Int) < 65536 := by omega
      have hmod : (k : Int).tmod 200 = (k : Int) := by rw [Int.tmod_eq_emod_of_nonneg (by omega)]; omega
      by_cases hok : 1 ≤ u ∧ ts.length < 64
      · have hrs : rsOk fs (u : Int) (k : Int) := ⟨bitC_ne (by omega), by omega, fun hm => by have := HH.out.2.2.2.2.1 _ hm; simp at this, by omega⟩
        have hun : ((u : Int) != 0) = true := by rw [bne_iff_ne]; omega
        have hun2 : ((u : Int) == 0) = false := by rw [beq_eq_false_iff_ne]; omega
        have d3 : (ts.length : Int) < 64 := by omega
        have HRS := Lib.hid hrs
        clear hrs hok hc
        go_wp2_with fail
        refine (raise_yes B 255 av hv fs (ts.reverse.take 4) u k _ HH.out.1 (by omega) HRS.out (by simp; omega) (by omega)).mono ?_
        rintro e w2 ⟨g2, av2, hv2, rfl, hg2, hF2, hE2, hU2, ha2, hh2⟩
        have hT2 : Lax w2 45 1 (.slice ta ts.length tc) ts.length (uv ts) := HH.out.2.1.upd hU2 (fun j hj => by
          obtain ⟨_, cur, hcur⟩ := HH.out.2.1.lt j hj
          exact emS_not HH.out.1 hcur (by decide) (by decide))
        have hlo : ∀ j, j < w.heap.size → ¬ (j = B ∨ av.ownBlock = some j) := fun j hj h => by
          rcases h with h | h
          · have := HH.out.2.2.2.2.2.2.2.1; omega
          · have := HH.out.2.2.2.2.2.2.2.2.1 j h; omega
        have hB2 : Below w.heap.size w w2 := HH.out.2.2.2.2.2.2.1.trans (hU2.toBelow hwr hlo)
        have hcr2 : w2.cell? ⟨cb, off + k, none⟩ = some (.int .u16 (u : Int)) := by
          rw [← hcr]; exact hU2.cell (by show cb < _; omega) (hlo cb hcb)
        rw [take4, show (((u + 65536 * k : Nat) : Int) :: ts.reverse) = (ts ++ [((u + 65536 * k : Nat) : Int)]).reverse by simp] at hE2
        have HW := orW u k (by omega) (by omega)
        obtain ⟨wd, hwd⟩ : ∃ wd : Nat, u + 65536 * k = wd := ⟨_, rfl⟩
        rw [hwd] at hE2 HW
        have HE2 := Lib.hid hE2
        have HB2 := Lib.hid hB2
        have HT2 := Lib.hid hT2
        have HA2 := Lib.hid ha2
        have HH2 := Lib.hid hh2
        have s2 := hU2.size
        have hcb2 : cb < w2.heap.size := by omega
        have HTA : Hid (Lax (w2.alloc (.cells #[.int .u32 (wd : Int)] 45)) 45 1 (.slice ta ts.length tc) ts.length (uv ts)) := hT2.upd ((Upd.refl (fun _ => False) w2).alloc _) (fun _ _ h => h)
        have HNW : Hid (∀ j x, [Value.int .u32 (wd : Int)][j]? = some x → (w2.alloc (.cells #[.int .u32 (wd : Int)] 45)).cell? ((⟨w2.heap.size, 0, none⟩ : Addr).add j) = some x) := by
          intro j x hx
          have hnew : (w2.alloc (.cells #[.int .u32 (wd : Int)] 45)).heap[w2.heap.size]? = some (.cells #[.int .u32 (wd : Int)] 45 (0, 0)) := heap_alloc_new _ _
          rw [Addr.add_lit, Nat.zero_add]
          match j, hx with
          | 0, hx => simp at hx; subst hx; exact cells1 hnew
        have H1C : Hid (∀ x ∈ [Value.int .u32 (wd : Int)], x.oneCell' = true) := by intro x hx; simp at hx; subst hx; rfl
        have hml : ts.length + 1 ≤ maxLen := by unfold maxLen; omega
        clear hE2 hB2 hT2 ha2 hh2 hU2 hF2 hlo hcr hwd HRS
        go_wp2_with (at_builtin; refine wpList_append_lax rfl (.tmp 56) (.tmp 67) 32 rfl 45 (.int .u32 0) 1 4 Try.underlying32 info45 rfl (by decide) (.slice ta ts.length tc) ts.length (uv ts) rfl HTA.out ⟨w2.heap.size, 0, none⟩ 1 1 [.int .u32 (wd : Int)] rfl rfl HNW.out H1C.out (by omega) hml (by omega) ?_)
        intro g3 cap3 w3 hl3 hg3 hd3
        have hU3 : Upd (fun j => (Value.slice ta ts.length tc).ownBlock = some j) w2 w3 := ((Upd.refl _ w2).alloc (.cells #[.int .u32 (wd : Int)] 45)).grown hg3 (fun j e _ => e)
        have hto : ∀ j, (Value.slice ta ts.length tc).ownBlock = some j → j < wr.heap.size := fun j hj => (HH.out.2.1.lt j hj).1
        have hH3 : HistI w B (k + 1) (.slice (some ⟨g3, 0, none⟩) (ts.length + 1) cap3) av2 hv2 (fs ++ [((u : Int), (k : Int))]) (ts ++ [(wd : Int)]) w3 := by
          refine ⟨HE2.out.upd hU3 (fun h => ?_) (fun j hj h => ?_) (fun j hj h => ?_), ?_, by simp [hlen], by simp; omega, fun p hp => ?_, fun j hj h => ?_, HB2.out.trans (hU3.toBelow HB2.out.size (fun j hj h => ?_)), HH.out.2.2.2.2.2.2.2.1, fun j hj => ?_, fun j hj => ?_⟩
          · exact absurd (lax_type HT2.out h HE2.out.1) (by decide)
          · obtain ⟨_, cur, hcur⟩ := HE2.out.2.1.lt j hj
            exact absurd (lax_type HT2.out h hcur) (by decide)
          · have h1 := HH2.out j hj; have h2 := hto j h; omega
          · have := hl3
            rw [show uv ts ++ [Value.int .u32 (wd : Int)] = uv (ts ++ [(wd : Int)]) by simp [uv]] at this
            simpa using this
          · rcases List.mem_append.1 hp with hp | hp
            · have := HH.out.2.2.2.2.1 p hp; omega
            · simp at hp; subst hp; show (k : Int) < ((k + 1 : Nat) : Int); omega
          · have h1 := HH2.out j hj
            have h2 := (HE2.out.2.2.lt j hj).1
            simp [Value.ownBlock] at h
            subst h
            rcases hd3 with e | e
            · have := hto _ e; omega
            · have h9 : (w2.alloc (.cells #[.int .u32 (wd : Int)] 45)).heap.size = w2.heap.size + 1 := by simp
              omega
          · have := HH.out.2.2.2.2.2.2.2.2.2 j h; omega
          · rcases HA2.out j hj with h | h
            · exact HH.out.2.2.2.2.2.2.2.2.1 j h
            · omega
          · simp [Value.ownBlock] at hj
            subst hj
            rcases hd3 with e | e
            · exact HH.out.2.2.2.2.2.2.2.2.2 _ e
            · have h9 : (w2.alloc (.cells #[.int .u32 (wd : Int)] 45)).heap.size = w2.heap.size + 1 := by simp
              omega
        have HH3 := Lib.hid hH3
        clear hl3 hg3 hd3 hU3 hto hH3
        go_wp2_with fail
        go_roundg (100 - (k + 1))
        case measure => have := HG.out; omega
        case rel => exact ⟨k + 1, by omega, rfl, by go_num, _, _, _, _, HH3.out⟩
      · have hrs : ¬ rsOk fs (u : Int) (k : Int) := fun h => by
          have h1 := bitC_pos h.1
          have h2 := h.2.2.2
          exact hok ⟨by omega, by omega⟩
        have hun : u = 0 ∨ (¬ u = 0 ∧ ts.length = 64) := by omega
        have HRS := Lib.hid hrs
        clear hrs hok hc
        go_wp2_with fail
        refine (raise_no B 255 av hv fs (ts.reverse.take 4) u k _ HH.out.1 (by omega) HRS.out).mono ?_
        rintro e w2 ⟨rfl, hb2⟩
        have HH2 := Lib.hid (HH.out.below (k' := k + 1) hb2 (by omega))
        have hcr2 : w2.cell? ⟨cb, off + k, none⟩ = some (.int .u16 (u : Int)) := by
          rw [← hcr]; exact hb2.cell (by show cb < _; omega)
        clear hb2 hcr HRS
        rcases hun with rfl | ⟨hu2, ht⟩
        · go_wp2_with fail
          go_roundg (100 - (k + 1))
          case measure => have := HG.out; omega
          case rel => exact ⟨k + 1, by omega, rfl, by go_num, _, _, _, _, HH2.out⟩
        · have hun2 : ((u : Int) == 0) = false := by rw [beq_eq_false_iff_ne]; omega
          have d3 : decide ((ts.length : Int) < 64) = false := decide_eq_false (by omega)
          have hun3 : ((u : Int) != 0) = true := by rw [bne_iff_ne]; omega
          clear hu2 ht ht64 hlen
          go_wp2_with fail
          go_roundg (100 - (k + 1))
          case measure => have := HG.out; omega
          case rel => exact ⟨k + 1, by omega, rfl, by go_num, _, _, _, _, HH2.out⟩
    · have key : ((k : Int) < (us.length : Int) ∧ ¬ (k : Int) < 100) ∨ ¬ (k : Int) < (us.length : Int) := by omega
      obtain ⟨m, hm⟩ : ∃ m, (ts.reverse.take 4).length = m := ⟨_, rfl⟩
      have hm4 : m ≤ 4 ∧ m ≤ ts.length ∧ (ts.length ≤ 4 → m = ts.length) ∧ (4 ≤ ts.length → m = 4) := by
        rw [List.length_take, List.length_reverse] at hm; omega
      have hget : ∀ j, j < m → ∃ q : Nat, q < ts.length ∧ (ts.length : Int) - 1 - (j : Int) = (q : Int) ∧ (ts.reverse.take 4)[j]? = ts[q]? := fun j hj => by
        refine ⟨ts.length - 1 - j, by omega, by omega, ?_⟩
        rw [List.getElem?_take_of_lt (by omega), List.getElem?_reverse (by omega)]
      have HS := Lib.hid (history_any B 255 av hv fs (ts.reverse.take 4) wr HH.out.1 (by omega))
      rw [hm] at HS
      have HGET := Lib.hid hget
      have HM4 := Lib.hid hm4
      have HLEN := Lib.hid hlen
      have HH64 := Lib.hid ht64
      have mlen : ((m : Int) != min (ts.length : Int) 4) = false := by
        have : (m : Int) = min (ts.length : Int) 4 := by omega
        simp [bne, this]
      have mlen2 : (m : Int) = min (ts.length : Int) 4 := by omega
      have HML := Lib.hid (And.intro mlen mlen2)
      clear hk1 hget hm4 hlen ht64 hm mlen mlen2
      rcases key with ⟨d1, d2⟩ | d1
      all_goals
        go_wp2_with fail
        refine HS.out.mono ?_
        rintro e w2 ⟨v8, rfl, hown, hb2⟩
        obtain ⟨ha, hc, rfl⟩ : ∃ ha hc, v8 = .slice ha m hc := by
          rcases hown.2 with ⟨rfl, rfl⟩ | ⟨g, cap', cur, rfl, _⟩
          · exact ⟨none, 0, rfl⟩
          · exact ⟨_, cap', rfl⟩
        have HO8 := Lib.hid (Lax.of_own hown)
        have HH2 := Lib.hid (HH.out.below (k' := k) hb2 (Nat.le_refl _))
        have s2 := hb2.size
        clear hown hb2 HS
        have mneq : ((m : Int) != if (4 : Int) < (ts.length : Int) then 4 else (ts.length : Int)) = false := by
          have h := HM4.out
          have h2 : (m : Int) = if (4 : Int) < (ts.length : Int) then 4 else (ts.length : Int) := by split <;> omega
          rw [← h2]; simp
        go_wp2_with fail
        all_goals
          go_loopg [9] m (fun gg i wr2 => ∃ j : Nat, j ≤ m ∧ gg = m - j ∧ i = .int .i64 j ∧ ∃ nd, wr2 = w2.drewN nd)
          case atStart => exact ⟨0, by omega, by omega, rfl, 0, rfl⟩
          case round =>
            obtain ⟨j, hj, hgj, rfl, nd, hw⟩ := hrel
            subst hw
            have HGJ := Lib.hid hgj
            clear hgj mneq
            by_cases hjm : j < m
            · have d5 : (j : Int) < (m : Int) := by omega
              obtain ⟨q, hq, hqi, hqe⟩ := HGET.out j hjm
              obtain ⟨z, hz⟩ : ∃ z, ts[q]? = some z := ⟨_, List.getElem?_eq_getElem hq⟩
              obtain ⟨gh, rfl⟩ := HO8.out.at0 (by omega)
              obtain ⟨gt, rfl⟩ := HH2.out.2.1.at0 (by omega)
              have c1 : w2.cell? ⟨gh, j, none⟩ = some (.int .u32 z) := HO8.out.cell (by unfold uv; rw [List.getElem?_map, hqe, hz]; rfl)
              have c2 : w2.cell? ⟨gt, q, none⟩ = some (.int .u32 z) := HH2.out.2.1.cell (by unfold uv; rw [List.getElem?_map, hz]; rfl)
              have hq0 : (0 : Int) ≤ (q : Int) := by omega
              have hq1 : (q : Int) < (ts.length : Int) := by omega
              have t64 : (ts.length : Int) ≤ 64 := by have := HH64.out; omega
              clear hz hqe
              go_wp2_with fail
              go_quiet (fail)
              go_wp2_with fail
              go_roundg (m - (j + 1))
              case measure => have := HGJ.out; omega
              case rel => exact ⟨j + 1, by omega, rfl, by go_num, _, rfl⟩
            · obtain rfl : j = m := by omega
              have hBB := HH2.out.2.2.2.2.2.2.2.1
              have HBd : Hid (Below w.heap.size w (w2.drewN nd)) := HH2.out.2.2.2.2.2.2.1.trans ⟨rfl, rfl, rfl, Nat.le_refl _, fun _ _ => rfl⟩
              have HEd : Hid (Emc (w2.drewN nd) B 255 av hv fs (ts.reverse.take 4)) := ⟨HH2.out.1.1, HH2.out.1.2.1.keep (fun _ _ => rfl), HH2.out.1.2.2.keep (fun _ _ => rfl)⟩
              generalize w2.drewN nd = w3 at *
              go_wp2_with fail
              refine (wipe_any B 255 av hv fs _ w3 HEd.out).mono ?_
              rintro e w4 ⟨rfl, hE4, hU4⟩
              have HE4 := Lib.hid hE4
              have HB4 := Lib.hid (HBd.out.trans (hU4.toBelow HBd.out.size (fun j hj e => by omega)))
              clear hE4 hU4
              go_wp2_with fail
              refine (history_any B 255 av (.slice none 0 0) fs [] w4 HE4.out (by simp)).mono ?_
              rintro e w5 ⟨v5, rfl, hown, hb5⟩
              have hown : w5.ownsRow w4.heap.size 45 1 v5 0 [] := hown
              obtain ⟨ha5, hc5, rfl⟩ : ∃ ha hc, v5 = .slice ha 0 hc := by
                rcases hown.2 with ⟨rfl, _⟩ | ⟨g, cap', cur, rfl, _⟩
                · exact ⟨none, 0, rfl⟩
                · exact ⟨_, cap', rfl⟩
              have HE5 := Lib.hid (HE4.out.below hb5)
              have HB5 := Lib.hid (HB4.out.trans (hb5.mono HB4.out.size))
              clear hown hb5
              go_wp2_with fail
              refine (active_any B 255 av (.slice none 0 0) fs [] w5 HE5.out).mono ?_
              rintro e w6 ⟨rfl, rfl⟩
              rw [HLEN.out]
              go_wp2_with fail
              refine (known27 _).mono ?_
              rintro e w7 ⟨rfl, hb7⟩
              have HB7 := Lib.hid (HB5.out.trans (hb7.mono HB5.out.size))
              clear hb7
              go_wp2_with fail
              go_ret
              exact ⟨rfl, HB7.out⟩

theorem ehist_frame (a : Option Addr) (len cap : Nat) (zs : List Int) (w : World) (hr : IsRow .u16 w a len cap zs) :
    Calls Try.prog 5 #[.slice a len cap] w fun e w' => e = .returned (.bool true) ∧ Below w.heap.size w w' := by
  obtain ⟨us, rfl, hU, hm⟩ := hr.u16s
  exact ehist_walk us a cap w (by unfold maxLen at hm; omega) hU
end Go.Proofs.Ytlhbgikgaoeciaa
