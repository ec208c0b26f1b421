/-
  The fixed calls of the flash laws.
-/
import Derived.Test.YtibgfeammjliiaaFlsF
set_option linter.unusedSimpArgs false
set_option linter.unusedVariables false
namespace Go.Proofs.Ytibgfeammjliiaa
open Go.RowKit
attribute [local go_sem] Oper.semAt_some

theorem belowU {S : Nat → Prop} {base : Nat} {w W W' : World} (h : Below base w W) (hu : Upd S W W') (hs : ∀ i, S i → base ≤ i) (hb : base ≤ w.heap.size) : Below base w W' :=
  ⟨hu.os.trans h.os, hu.tape.trans h.tape, hu.output.trans h.output, Nat.le_trans h.size hu.size, fun k hk => (hu.block k (by have := h.size; omega) (fun e => by have := hs k e; omega)).trans (h.block k hk)⟩

theorem Fls.shape {w : World} {B : Nat} {bv wv : Value} {bs ws : List Int} {most : Int} {off : Bool} {ahead mask ops : Int} (h : Fls w B bv wv bs ws most off ahead mask ops) (h1 : 0 < bs.length) (h2 : 0 < ws.length) :
    ∃ g c g2 c2, bv = .slice (some ⟨g, 0, none⟩) bs.length c ∧ wv = .slice (some ⟨g2, 0, none⟩) ws.length c2 := by
  obtain ⟨a, c, rfl, _⟩ := h.2.1.shape
  obtain ⟨a2, c2, rfl, _⟩ := h.2.2.shape
  obtain ⟨g, rfl⟩ := h.2.1.at0 h1
  obtain ⟨g2, rfl⟩ := h.2.2.at0 h2
  exact ⟨g, c, g2, c2, rfl, rfl⟩

theorem Fls.alloc {w : World} {B : Nat} {bv wv : Value} {bs ws : List Int} {most : Int} {off : Bool} {ahead mask ops : Int} (h : Fls w B bv wv bs ws most off ahead mask ops) (o : Obj) : Fls (w.alloc o) B bv wv bs ws most off ahead mask ops :=
  h.upd ((Upd.refl (fun _ => False) w).alloc o) (fun h => h) (fun _ _ h => h) (fun _ _ h => h)

set_option maxRecDepth 100000 in
theorem string06 {w : World} {x : Addr} {cap : Nat} {l : List UInt8} (h : ∀ j (hj : j < l.length), w.cell? (x.add j) = some (.int .u8 (l[j].toNat : Int))) :
    (convert 22 9 (.slice (some x) l.length cap)).run Try.prog w = .ok (.string ⟨l.toArray⟩) w :=
  run_convert_bytes_back (P := Try.prog) w 22 9 5 x cap l Try.underlying22 Try.underlying5 Try.underlying9 h

/-- A row of bytes that was just made reads on, though the flash changes. -/
theorem Reads.new (w : World) (B g : Nat) (xs : List Int) (hB : B < w.heap.size) (hg : g < w.heap.size) : Reads (w.alloc (.cells (zv xs).toArray 5)) B g (some ⟨w.heap.size, 0, none⟩) xs := by
  refine .inr ⟨w.heap.size, 0, rfl, by omega, by omega, fun j z hz => ?_⟩
  have := heap_alloc_new w (.cells (zv xs).toArray 5)
  simp only [World.cell?, this]
  simp [zv, hz]
theorem Fls.lts {w : World} {B g n c g2 n2 c2 : Nat} {bs ws : List Int} {most : Int} {off : Bool} {ahead mask ops : Int} (h : Fls w B (.slice (some ⟨g, 0, none⟩) n c) (.slice (some ⟨g2, 0, none⟩) n2 c2) bs ws most off ahead mask ops) : B < w.heap.size ∧ g < w.heap.size ∧ g2 < w.heap.size :=
  ⟨h.lt, (h.2.1.lt g rfl).1, (h.2.2.lt g2 rfl).1⟩

theorem take3 {l : List Int} {k : Nat} {a b c : Int} (h0 : l[k]? = some a) (h1 : l[k + 1]? = some b) (h2 : l[k + 2]? = some c) : (l.drop k).take 3 = [a, b, c] := by
  apply List.ext_getElem?
  intro i
  rw [List.getElem?_take, List.getElem?_drop]
  match i with
  | 0 => rw [if_pos (by omega)]; exact h0
  | 1 => rw [if_pos (by omega)]; exact h1
  | 2 => rw [if_pos (by omega)]; exact h2
  | i + 3 => rw [if_neg (by omega)]; rfl
theorem known_bytes (bs bs4 : List Int) (hl : bs.length = 1024) (h : ∀ i, i < 1024 → bs[i]? = some 255) (e : (progZ (progZ bs 3 [15] 1) 4 [0, 0] 1).set (4 + 1) (someZ 255 0 15) = bs4) : (bs4.drop 3).take 3 = [15, 0, 240] := by
  subst e
  apply take3
  · rw [List.getElem?_set_ne (by omega), progZ_get _ _ _ _ _ (by rw [progZ_length]; omega), if_neg (by omega), progZ_get _ _ _ _ _ (by omega), if_pos (by omega), h 3 (by omega)]
    rfl
  · rw [List.getElem?_set_ne (by omega), progZ_get _ _ _ _ _ (by rw [progZ_length]; omega), if_pos (by omega), progZ_get _ _ _ _ _ (by omega), if_neg (by omega), h 4 (by omega)]
    rfl
  · rw [List.getElem?_set_self (by rw [progZ_length, progZ_length]; omega)]
    rfl

set_option maxRecDepth 100000 in
set_option maxHeartbeats 4000000 in
theorem known06 (w : World) : Calls Try.prog 14 #[] w fun e w' => e = .returned (.bool true) ∧ Below w.heap.size w w' := by
  go_enter Try.func14, Try.ntmps14
  go_wp2_with fail
  refine (new_ok 1 2 _ (by omega) (by omega) (by omega)).mono ?_
  rintro e w1 ⟨B, bv, wv, rfl, hF1, hB1, hb1, hw1, hBl1⟩
  obtain ⟨bs, hbs⟩ : ∃ bs : List Int, List.replicate (1 * 1024) 255 = bs := ⟨_, rfl⟩
  have hlen : bs.length = 1024 := by rw [← hbs]; exact List.length_replicate
  have hat : ∀ i, i < 1024 → bs[i]? = some 255 := fun i hi => by rw [← hbs, List.getElem?_replicate, if_pos (by omega)]
  rw [hbs] at hF1
  obtain ⟨g, c, g2, c2, rfl, rfl⟩ := hF1.shape (by omega) (by simp)
  have hF1 : Fls w1 B (.slice (some ⟨g, 0, none⟩) 1024 c) (.slice (some ⟨g2, 0, none⟩) 1 c2) bs [0] 2 false (-1) 0 0 := by rw [hlen] at hF1; exact hF1
  have hg1 := hb1 g rfl
  have hg2 := hw1 g2 rfl
  have HF1 := Lib.hid hF1
  have HB1 := Lib.hid hBl1
  have HN := Lib.hid (And.intro hlen hat)
  have HS := Lib.hid (And.intro hB1 (And.intro hg1 hg2))
  clear hF1 hbs hB1 hb1 hw1 hBl1 hlen hat hg1 hg2
  have HL := Lib.hid (len_any B _ _ bs _ _ _ _ _ _ w1 HF1.out)
  rw [HN.out.1] at HL
  have HO := Lib.hid (on_any B _ _ bs _ _ _ _ _ _ w1 HF1.out)
  go_wp2_with fail
  refine HL.out.mono ?_
  rintro e w2 ⟨rfl, rfl⟩
  go_wp2_with fail
  refine HO.out.mono ?_
  rintro e w2 ⟨rfl, rfl⟩
  go_wp2_with fail
  refine (new_no 0 1 _ (by omega)).mono ?_
  rintro e w2 ⟨rfl, rfl⟩
  clear HL HO
  go_wp2_with fail
  refine (prog_whole B g 1024 c _ bs [0] 2 0 0 3 (some ⟨w1.heap.size, 0, none⟩) [15] 1 1 _ (HF1.out.alloc _) HN.out.1.symm (by omega) rfl (Reads.new w1 B g [15] HF1.out.lts.1 HF1.out.lts.2.1) (by omega) (by omega) (by omega)).mono ?_
  rintro e w2 ⟨rfl, hF2, hU2⟩
  have HF2 := Lib.hid (show Fls w2 B (.slice (some ⟨g, 0, none⟩) 1024 c) (.slice (some ⟨g2, 0, none⟩) 1 c2) (progZ bs 3 [15] 1) [0] 2 false (-1) 0 1 from hF2)
  have HB2 := Lib.hid (belowU (HB1.out.alloc (by have := HB1.out.size; omega) _) hU2 (by have := HS.out; omega) (Nat.le_refl _))
  clear hF2 hU2 HB1
  go_wp2_with fail
  refine (cut_any B _ _ _ _ _ _ _ _ _ 1 15 _ HF2.out (by omega)).mono ?_
  rintro e w3 ⟨rfl, hF3, hU3⟩
  have HF3 := Lib.hid hF3
  have HB3 := Lib.hid (belowU HB2.out hU3 (by have := HS.out; omega) (Nat.le_refl _))
  clear hF3 hU3 HB2
  go_wp2_with fail
  refine (prog_torn B g 1024 c _ (progZ bs 3 [15] 1) [0] 2 15 1 4 (some ⟨w3.heap.size, 0, none⟩) [0, 0] 2 2 1 _ (HF3.out.alloc _) (by rw [progZ_length]; exact HN.out.1.symm) (by omega) rfl (Reads.new w3 B g [0, 0] HF3.out.lts.1 HF3.out.lts.2.1) (by omega) (by omega) (by omega) (by omega) 0 255 rfl (by rw [progZ_get _ _ _ _ _ (by have := HN.out.1; omega), if_neg (by omega)]; exact HN.out.2 5 (by omega))).mono ?_
  rintro e w4 ⟨rfl, hF4, hU4⟩
  obtain ⟨bs4, hbs4⟩ : ∃ bs4, (progZ (progZ bs 3 [15] 1) 4 [0, 0] 1).set (4 + 1) (someZ 255 0 15) = bs4 := ⟨_, rfl⟩
  have HV := Lib.hid hbs4
  rw [hbs4] at hF4
  have hlen4 : bs4.length = 1024 := by rw [← hbs4, List.length_set, progZ_length, progZ_length]; exact HN.out.1
  have HF4 := Lib.hid (show Fls w4 B (.slice (some ⟨g, 0, none⟩) 1024 c) (.slice (some ⟨g2, 0, none⟩) 1 c2) bs4 [0] 2 true (-1) 15 2 from hF4)
  have HB4 := Lib.hid (belowU (HB3.out.alloc (by have := HB3.out.size; omega) _) hU4 (by have := HS.out; omega) (Nat.le_refl _))
  have HN4 := Lib.hid hlen4
  clear hF4 hU4 HB3 hlen4 hbs4
  go_wp2_with fail
  refine (start_any B _ _ _ _ _ _ _ _ _ _ HF4.out).mono ?_
  rintro e w5 ⟨rfl, hF5, hU5⟩
  have HF5 := Lib.hid hF5
  have HB5 := Lib.hid (belowU HB4.out hU5 (by have := HS.out; omega) (Nat.le_refl _))
  clear hF5 hU5 HB4
  go_wp2_with fail
  refine (read_ok B g 1024 c _ bs4 [0] 2 (-1) 15 2 3 3 _ HF5.out HN4.out.symm (by omega) (by omega) (by omega)).mono ?_
  rintro e w6 ⟨v, rfl, g6, c6, rfl, hg6, hown6, hb6⟩
  have htk := known_bytes bs bs4 HN.out.1 HN.out.2 HV.out
  rw [htk] at hown6 ⊢
  have HL6 := Lib.hid (Lax.of_own (show w6.ownsRow w5.heap.size 5 1 (.slice (some ⟨g6, 0, none⟩) 3 c6) 3 (zv [15, 0, 240]) from hown6))
  have HF6 := Lib.hid (HF5.out.below hb6)
  have HG6 := Lib.hid (show B ≠ g6 ∧ g ≠ g6 ∧ g2 ≠ g6 from by have := HF5.out.lts; omega)
  have HB6 := Lib.hid (belowU HB5.out (Upd.ofBelow' (S := fun _ => False) hb6) (fun _ h => h.elim) (Nat.le_refl _))
  clear hown6 hb6 hg6 htk HB5 HV
  go_wp2_with fail
  refine (erase_whole B g 1024 c g2 1 c2 bs4 [0] 2 (-1) 15 2 0 0 _ HF6.out HN4.out.symm rfl rfl (by omega) (by omega) (by omega) (by omega) (by omega) (by omega) (by omega)).mono ?_
  rintro e w7 ⟨rfl, hF7, hU7⟩
  have HF7 := Lib.hid (show Fls w7 B (.slice (some ⟨g, 0, none⟩) 1024 c) (.slice (some ⟨g2, 0, none⟩) 1 c2) (fillZ bs4 0 1024) [1] 2 false (-1) 15 3 from hF7)
  have HL7 := Lib.hid (HL6.out.upd hU7 (fun k hk h => by have e : g6 = k := Option.some.inj hk; have := HG6.out; rcases h with h | h | h <;> omega))
  have HB7 := Lib.hid (belowU HB6.out hU7 (by have := HS.out; omega) (Nat.le_refl _))
  clear hF7 hU7 HB6 HL6
  go_wp2_with fail
  refine (erase_whole B g 1024 c g2 1 c2 (fillZ bs4 0 1024) [1] 2 (-1) 15 3 0 1 _ HF7.out (by rw [fillZ_length]; exact HN4.out.symm) rfl rfl (by omega) (by omega) (by omega) (by omega) (by omega) (by omega) (by omega)).mono ?_
  rintro e w8 ⟨rfl, hF8, hU8⟩
  have HF8 := Lib.hid (show Fls w8 B (.slice (some ⟨g, 0, none⟩) 1024 c) (.slice (some ⟨g2, 0, none⟩) 1 c2) (fillZ (fillZ bs4 0 1024) 0 1024) [2] 2 false (-1) 15 4 from hF8)
  have hL8 := HL7.out.upd hU8 (fun k hk h => by have e : g6 = k := Option.some.inj hk; have := HG6.out; rcases h with h | h | h <;> omega)
  have HB8 := Lib.hid (belowU HB7.out hU8 (by have := HS.out; omega) (Nat.le_refl _))
  have S1 := string06 (w := w8) (x := ⟨g6, 0, none⟩) (cap := c6) (l := [15, 0, 240]) (fun j hj => by
    rw [Addr.add_lit, Nat.zero_add]
    apply hL8.cell
    match j, hj with
    | 0, _ => rfl
    | 1, _ => rfl
    | 2, _ => rfl)
  have S1 := (show (convert 22 9 (.slice (some ⟨g6, 0, none⟩) 3 c6)).run Try.prog w8 = .ok (.string ⟨#[15, 0, 240]⟩) w8 from S1)
  clear hF8 hU8 HB7 HL7 hL8
  go_wp2_with fail
  refine (erase_worn B _ _ _ [2] 2 (-1) 15 4 0 2 _ HF8.out rfl (by omega)).mono ?_
  rintro e w9 ⟨rfl, hb9⟩
  have HF9 := Lib.hid (HF8.out.below hb9)
  have HB9 := Lib.hid (belowU HB8.out (Upd.ofBelow' (S := fun _ => False) hb9) (fun _ h => h.elim) (Nat.le_refl _))
  clear hb9 HB8
  go_wp2_with fail
  refine (worn_any B _ _ _ [2] 2 _ _ _ _ 0 _ HF9.out).mono ?_
  rintro e w10 ⟨rfl, rfl⟩
  rw [show wornZ [2] 0 = 2 from by decide]
  go_wp2_with fail
  refine (left_any B _ _ _ [2] 2 _ _ _ _ 0 _ HF9.out (by omega) (by simp)).mono ?_
  rintro e w11 ⟨rfl, hb11⟩
  rw [show leftZ 2 [2] 0 = 0 from by decide]
  have HF11 := Lib.hid (HF9.out.below hb11)
  have HB11 := Lib.hid (belowU HB9.out (Upd.ofBelow' (S := fun _ => False) hb11) (fun _ h => h.elim) (Nat.le_refl _))
  clear hb11 HB9
  go_wp2_with fail
  refine (ops_any B _ _ _ _ _ _ _ _ _ _ HF11.out).mono ?_
  rintro e w12 ⟨rfl, rfl⟩
  go_wp2_with fail
  go_ret
  exact ⟨rfl, HB11.out⟩
end Go.Proofs.Ytibgfeammjliiaa
