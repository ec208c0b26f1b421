/-
  A flash in memory; CONTRACTS of Of and New.
-/
import Derived.Test.YtibgfeammjliiaaFlsA
import Derived.Laws.MakeOwn
import Derived.Deep.RegionLaw
set_option linter.unusedSimpArgs false
set_option linter.unusedVariables false
namespace Go.Proofs.Ytibgfeammjliiaa
open Go.RowKit
attribute [local go_sem] Oper.semAt_some

theorem madeOne (z : Value) (n : Nat) : (madeCells #[z] n) = (List.replicate n z).toArray := by
  unfold madeCells
  apply Array.ext
  · simp
  · intro i h1 h2
    simp [Nat.mod_one]
theorem info_i64 : (Try.prog.info? 3).map (fun i => (i.zero, i.size, i.bytes)) = some (some (.int .i64 0), 1, 8) := by kernel_rfl
theorem mk58 (W : World) (n : Nat) (h : n ≤ 100000) : (Instr.makeSlice 58 (.int .i64 (n : Int)) (.int .i64 (n : Int))).run Try.prog W = .ok (.slice (some ⟨W.heap.size, 0, none⟩) n n) (W.alloc (.cells (List.replicate n (Value.int .i64 0)).toArray 3)) := by
  obtain ⟨i, hi, hz, h1, h2⟩ := info_parts info_i64
  have hb : (i.bytes : Int) * (n : Int) ≤ 281474976710656 := by rw [h2]; omega
  have hr := run_make (P := Try.prog) W 58 3 i _ Try.underlying58 hi hz .i64 .i64 n n (by omega) (by omega) hb (by omega)
  simp only [Int.toNat_natCast, h1] at hr
  rw [hr, ← madeOne, Nat.mul_one]
  rfl
theorem mk22 (W : World) (n : Nat) (h : n ≤ 100000) : (Instr.makeSlice 22 (.int .i64 (n : Int)) (.int .i64 (n : Int))).run Try.prog W = .ok (.slice (some ⟨W.heap.size, 0, none⟩) n n) (W.alloc (.cells (List.replicate n (Value.int .u8 0)).toArray 5)) := by
  obtain ⟨i, hi, hz, h1, h2⟩ := info_parts info_sp
  have hb : (i.bytes : Int) * (n : Int) ≤ 281474976710656 := by rw [h2]; omega
  have hr := run_make (P := Try.prog) W 22 5 i _ Try.underlying22 hi hz .i64 .i64 n n (by omega) (by omega) hb (by omega)
  simp only [Int.toNat_natCast, h1] at hr
  rw [hr, ← madeOne, Nat.mul_one]
  rfl

theorem Lax.made {W : World} {e n : Nat} {x : Value} {g : Nat} (h : W.heap[g]? = some (.cells (List.replicate n x).toArray e (0, 0))) (hn : n ≤ maxLen) : Lax W e 1 (.slice (some ⟨g, 0, none⟩) n n) n (List.replicate n x) :=
  ⟨by simp, .inr ⟨g, n, _, rfl, h, Nat.le_refl _, hn, by simp, by simp⟩⟩

theorem Lax.made_alloc (W : World) (e n : Nat) (x : Value) (hn : n ≤ maxLen) : Lax (W.alloc (.cells (Array.replicate n x) e)) e 1 (.slice (some ⟨W.heap.size, 0, none⟩) n n) n (List.replicate n x) :=
  Lax.made (by rw [heap_alloc_new]; simp) hn
theorem iv_rep (s : Nat) (z : Int) : iv (List.replicate s z) = List.replicate s (.int .i64 z) := by simp [iv]
theorem Lax.nil0 (W : World) (e size : Nat) : Lax W e size (.slice none 0 0) 0 [] := ⟨by simp, .inl ⟨rfl, rfl⟩⟩
theorem cell_alloc {w : World} {p : Addr} {v : Value} (h : w.cell? p = some v) (o : Obj) : (w.alloc o).cell? p = some v :=
  (World.cell?_of_block (heap_alloc_old w o (World.block_lt_of_cell? w p h))).trans h
theorem cell_drew {w : World} {p : Addr} {v : Value} (h : w.cell? p = some v) : w.drew.cell? p = some v := h
theorem zv_one (zs : List Int) : ∀ u ∈ zv zs, u.oneCell' = true := by
  intro u hu
  obtain ⟨z, _, rfl⟩ := List.mem_map.1 hu
  rfl

set_option maxRecDepth 100000 in
theorem of_ok (a : Addr) (bs : List Int) (s c : Nat) (most : Int) (w : World) (hs : bs.length = s * 1024) (h1 : 1 ≤ s) (h8 : s ≤ 8) (hm : 1 ≤ most)
    (hnews : ∀ j u, (zv bs)[j]? = some u → w.cell? (a.add j) = some u) :
    Calls Try.prog 22 #[.slice (some a) bs.length c, .int .i64 most] w fun e w' => ∃ B bv wv, e = .returned (.pointer (some ⟨B, 0, none⟩)) ∧ Fls w' B bv wv bs (List.replicate s 0) most false (-1) 0 0 ∧
      w.heap.size ≤ B ∧ (∀ j, bv.ownBlock = some j → w.heap.size ≤ j) ∧ (∀ j, wv.ownBlock = some j → w.heap.size ≤ j) ∧ Below w.heap.size w w' := by
  obtain ⟨n, hn⟩ : ∃ n, bs.length = n := ⟨_, rfl⟩
  have HL := Lib.hid hn
  rw [hn] at hs ⊢
  have HS := Lib.hid hs
  have d1 : (n : Int).tdiv 1024 = (s : Int) := by rw [Int.tdiv_eq_ediv_of_nonneg (by omega)]; omega
  have d2 : (1 : Int) ≤ (s : Int) := by omega
  have d3 : (s : Int) ≤ 8 := by omega
  have d4 : (s : Int) * 1024 = (n : Int) := by omega
  have HN := Lib.hid hnews
  have hmk := fun W => mk58 W s (by omega)
  have HZ : (zv bs).length = n * 1 := by rw [Nat.mul_one]; unfold zv; rw [List.length_map]; exact hn
  have HZ := Lib.hid HZ
  have H3 : 0 < n ∧ 0 + n ≤ maxLen ∧ (0 + n) * 1 ≤ 140737488355328 := by unfold maxLen; omega
  have H3 := Lib.hid H3
  clear hs hn hnews h1 h8
  go_enter Try.func22, Try.ntmps22
  go_wp2_with fail
  go_region_law (refine step_append_lax rfl (.const (.slice none 0 0)) (.tmp 26) 22 rfl 5 (.int .u8 0) 1 1 Try.underlying22 info_sp rfl (by decide) (.slice none 0 0) 0 [] rfl (Lax.nil0 _ _ _) a n c (zv bs) rfl HZ.out (fun j u h => by first | exact HN.out j u h | exact cell_alloc (HN.out j u h) _) (zv_one bs) H3.out.1 H3.out.2.1 H3.out.2.2 ?_; intro g3 cap3 w3 hl3 hg3 hd3)
  all_goals (rw [Nat.zero_add, List.nil_append] at hl3)
  all_goals (obtain rfl := (hd3.resolve_left (fun h => by cases h)))
  all_goals (have HL3 := Lib.hid hl3)
  all_goals (have HG3 := Lib.hid hg3)
  all_goals (clear hl3 hg3 hd3)
  all_goals go_wp2_with fail
  all_goals go_ret
  all_goals (have HSM : s ≤ maxLen := by have := HS.out; have := H3.out.2.1; omega)
  · have hU : Upd (fun _ => False) w w3 := (Upd.refl (fun _ => False) w).drew.grown HG3.out (fun k e _ => by cases e)
    refine ⟨_, _, _, rfl, ⟨anew _ _ (by simp), ?_, ?_⟩, by have := hU.size; omega, fun j hj => by cases hj; exact Nat.le_refl _, fun j hj => by cases hj; exact hU.size, ((hU.alloc _).alloc _).toBelow (Nat.le_refl _) (fun _ _ h => h)⟩
    · rw [HL.out]
      exact HL3.out.upd (((Upd.refl (fun _ => False) w3).alloc _).alloc _) (fun _ _ h => h)
    · rw [List.length_replicate, iv_rep]
      exact (Lax.made_alloc w3 3 s (.int .i64 0) HSM).upd ((Upd.refl (fun _ => False) _).alloc _) (fun _ _ h => h)
  · have hU : Upd (fun _ => False) w w3 := ((Upd.refl (fun _ => False) w).alloc _).drew.grown HG3.out (fun k e _ => by cases e)
    have hV : Upd (fun _ => False) (w.alloc (.cells (Array.replicate s (.int .i64 0)) 3)) w3 := (Upd.refl (fun _ => False) _).drew.grown HG3.out (fun k e _ => by cases e)
    refine ⟨_, _, _, rfl, ⟨anew _ _ (by simp), ?_, ?_⟩, by have := hU.size; omega, fun j hj => by cases hj; show w.heap.size ≤ (w.alloc _).heap.size; simp, fun j hj => by cases hj; exact Nat.le_refl _, (hU.alloc _).toBelow (Nat.le_refl _) (fun _ _ h => h)⟩
    · rw [HL.out]
      exact HL3.out.upd ((Upd.refl (fun _ => False) w3).alloc _) (fun _ _ h => h)
    · rw [List.length_replicate, iv_rep]
      exact (Lax.made_alloc w 3 s (.int .i64 0) HSM).upd (hV.alloc _) (fun _ _ h => h)

theorem rep_set {α : Type} (x y : α) (n k : Nat) (h : k < n) : (List.replicate k x ++ List.replicate (n - k) y).set k x = List.replicate (k + 1) x ++ List.replicate (n - (k + 1)) y := by
  rw [List.set_append_right _ _ (by simp), List.length_replicate, Nat.sub_self, show n - k = (n - (k + 1)) + 1 from by omega, List.replicate_succ, List.set_cons_zero, List.replicate_succ', List.append_assoc]
  rfl
/-- Of refuses. -/
theorem of_no (a : Option Addr) (n c : Nat) (most : Int) (w : World) (hn : ¬ (1 ≤ n / 1024 ∧ n / 1024 ≤ 8 ∧ n % 1024 = 0 ∧ 1 ≤ most)) (hl : n ≤ 1000000) :
    Calls Try.prog 22 #[.slice a n c, .int .i64 most] w fun e w' => e = .returned (.pointer none) ∧ w = w' := by
  have d1 : (n : Int).tdiv 1024 = ((n / 1024 : Nat) : Int) := by rw [Int.tdiv_eq_ediv_of_nonneg (by omega)]; omega
  obtain ⟨s, hs⟩ : ∃ s, n / 1024 = s := ⟨_, rfl⟩
  rw [hs] at hn d1
  have hs2 : (s : Int) ≤ 1000 := by omega
  have hs3 : (0 : Int) ≤ (s : Int) := by omega
  have HN := Lib.hid hn
  have HS := Lib.hid hs
  clear hn hs hl
  go_enter Try.func22, Try.ntmps22
  go_wp2_with fail
  all_goals first
    | (exfalso; have := HN.out; have := HS.out; omega)
    | (go_ret; exact ⟨rfl, rfl⟩)

/-- New: all bytes are ones. -/
theorem new_no (s most : Int) (w : World) (hs : ¬ (1 ≤ s ∧ s ≤ 8)) :
    Calls Try.prog 8 #[.int .i64 s, .int .i64 most] w fun e w' => e = .returned (.pointer none) ∧ w = w' := by
  by_cases h1 : 1 ≤ s
  · have d2 : decide (s < 1) = false := decide_eq_false (by omega)
    have d3 : decide (8 < s) = true := decide_eq_true (by omega)
    clear hs h1
    go_enter Try.func8, Try.ntmps8
    go_wp2_with fail
    go_ret
    exact ⟨rfl, rfl⟩
  · have d2 : decide (s < 1) = true := decide_eq_true (by omega)
    clear hs h1
    go_enter Try.func8, Try.ntmps8
    go_wp2_with fail
    go_ret
    exact ⟨rfl, rfl⟩
set_option maxRecDepth 100000 in
set_option maxHeartbeats 1000000 in
theorem new_ok (s : Nat) (most : Int) (w : World) (h1 : 1 ≤ s) (h8 : s ≤ 8) (hm : 1 ≤ most) :
    Calls Try.prog 8 #[.int .i64 (s : Int), .int .i64 most] w fun e w' => ∃ B bv wv, e = .returned (.pointer (some ⟨B, 0, none⟩)) ∧ Fls w' B bv wv (List.replicate (s * 1024) 255) (List.replicate s 0) most false (-1) 0 0 ∧
      w.heap.size ≤ B ∧ (∀ j, bv.ownBlock = some j → w.heap.size ≤ j) ∧ (∀ j, wv.ownBlock = some j → w.heap.size ≤ j) ∧ Below w.heap.size w w' := by
  obtain ⟨n, hn⟩ : ∃ n, s * 1024 = n := ⟨_, rfl⟩
  rw [hn]
  have HN := Lib.hid hn
  have d1 : (s : Int) * 1024 = (n : Int) := by omega
  have d2 : decide ((s : Int) < 1) = false := decide_eq_false (by omega)
  have d3 : decide ((8 : Int) < (s : Int)) = false := decide_eq_false (by omega)
  have hwr : IntKind.i64.wrap (n : Int) = (n : Int) := IntWalk.i64_in _ (by omega)
  have hmk := fun W => mk22 W n (by omega)
  have H8 := Lib.hid (show 1 ≤ s ∧ s ≤ 8 from ⟨h1, h8⟩)
  have HML : n ≤ maxLen := by unfold maxLen; omega
  have HML := Lib.hid HML
  have hnB : (n : Int) ≤ 8192 := by omega
  clear hn h1 h8
  go_enter Try.func8, Try.ntmps8
  go_wp2_with fail
  go_loopg [18] n (fun gg i wr => ∃ k : Nat, k ≤ n ∧ gg = n - k ∧ i = .int .i64 (k : Int) ∧ Below w.heap.size w wr ∧ Lax wr 5 1 (.slice (some ⟨w.heap.size, 0, none⟩) n n) n (List.replicate k (.int .u8 255) ++ List.replicate (n - k) (.int .u8 0)))
  case atStart => exact ⟨0, by omega, by omega, rfl, (Below.refl _ w).alloc (Nat.le_refl _) _, by simpa using Lax.made_alloc w 5 n (.int .u8 0) HML.out⟩
  case round =>
    obtain ⟨k, hk, hgk, rfl, hB, hL⟩ := hrel
    have HG := Lib.hid hgk
    have HB := Lib.hid hB
    have HL := Lib.hid hL
    clear hgk hB hL
    by_cases hkn : k < n
    · have dk : (k : Int) < (n : Int) := by omega
      obtain ⟨hf, _⟩ := HL.out.free k
      have hc := HL.out.cell (j := k) (u := .int .u8 0) (by rw [List.getElem?_append_right (by simp), List.length_replicate, Nat.sub_self, List.getElem?_replicate, if_pos (by omega)])
      go_wp2_with fail
      go_roundg (n - (k + 1))
      case measure => have := HG.out; omega
      case rel =>
        refine ⟨k + 1, by omega, rfl, by go_num, HB.out.setCell (Nat.le_refl _) _, ?_⟩
        have := HL.out.stored k hkn (.int .u8 255)
        rw [rep_set _ _ _ _ hkn] at this
        exact this
    · obtain rfl : k = n := by omega
      have hcall : Calls Try.prog 22 #[.slice (some ⟨w.heap.size, 0, none⟩) k k, .int .i64 most] wr fun e w' => ∃ B bv wv, e = .returned (.pointer (some ⟨B, 0, none⟩)) ∧ Fls w' B bv wv (List.replicate k 255) (List.replicate s 0) most false (-1) 0 0 ∧
          wr.heap.size ≤ B ∧ (∀ j, bv.ownBlock = some j → wr.heap.size ≤ j) ∧ (∀ j, wv.ownBlock = some j → wr.heap.size ≤ j) ∧ Below wr.heap.size wr w' := by
        have := of_ok ⟨w.heap.size, 0, none⟩ (List.replicate k 255) s k most wr (by rw [List.length_replicate]; exact HN.out.symm) H8.out.1 H8.out.2 hm (by
          intro j u hu
          refine HL.out.news _ rfl j u ?_
          have e : zv (List.replicate k 255) = List.replicate k (.int .u8 255) := by unfold zv; rw [List.map_replicate]
          rw [← e, Nat.sub_self]
          simpa using hu)
        rw [List.length_replicate] at this
        exact this
      have HC := Lib.hid hcall
      clear hcall
      go_wp2_with fail
      refine HC.out.mono ?_
      rintro e w1 ⟨B, bv, wv, rfl, hF, hg1, hg2, hg3, hb⟩
      have HF := Lib.hid hF
      have HB2 := Lib.hid hb
      have HGS := Lib.hid (And.intro hg1 (And.intro hg2 hg3))
      clear hF hb hg1 hg2 hg3
      go_wp2_with fail
      go_ret
      have hsz := HB.out.size
      exact ⟨B, bv, wv, rfl, HF.out, Nat.le_trans hsz HGS.out.1, fun j hj => Nat.le_trans hsz (HGS.out.2.1 j hj), fun j hj => Nat.le_trans hsz (HGS.out.2.2 j hj), HB.out.trans (HB2.out.mono hsz)⟩
end Go.Proofs.Ytibgfeammjliiaa
