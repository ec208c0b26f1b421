/-
  THE WALK of Sum16Linear.
-/
import Derived.Test.YtgbjdejbldifcaaMore
import Derived.Test.YtgbjdejbldifcaaCrc3
import Derived.Deep.RegionHeld3
import Derived.OpenShut
import Derived.Lib.SmallJoins
set_option linter.unusedSimpArgs false
set_option linter.unusedVariables false
namespace Go.Proofs.Ytgbjdejbldifcaa
open Go.RowKit

/-- The exclusive or of two texts, to the shorter's end. -/
def xorT (l m : List UInt8) (n : Nat) : List UInt8 := List.zipWith (· ^^^ ·) (l.take n) (m.take n)

theorem made_bv (n : Nat) : (madeCells #[Value.int .u8 0] n).toList = bv (List.replicate n 0) := by
  rw [toList_madeCells_one]
  simp [bv]

theorem xorT_length (l m : List UInt8) (n : Nat) (h1 : n ≤ l.length) (h2 : n ≤ m.length) : (xorT l m n).length = n := by
  simp [xorT]; omega

theorem dcell (l m : List UInt8) (n k : Nat) (hk : k < n) (h1 : n ≤ l.length) (h2 : n ≤ m.length) : (bv (List.take k (xorT l m n) ++ List.replicate (n - k) 0))[k]? = some (.int .u8 0) := by
  have hl := xorT_length l m n h1 h2
  have e : (List.take k (xorT l m n)).length = k := by simp [hl]; omega
  have hlt : k < (List.take k (xorT l m n) ++ List.replicate (n - k) 0).length := by simp [hl]; omega
  rw [bv_get _ k hlt]
  congr 3
  rw [List.getElem_append_right (by omega)]
  simp

theorem xor_cell (x y : UInt8) : bits .xor .u8 (x.toNat : Int) (y.toNat : Int) = ((x ^^^ y).toNat : Int) := by
  have hx := x.toNat_lt
  have hy := y.toNat_lt
  rw [u8_xor_nat _ _ (by omega) (by omega), UInt8.toNat_xor]

theorem dstep (l m : List UInt8) (n k : Nat) (hk : k < n) (h1 : n ≤ l.length) (h2 : n ≤ m.length) (x y : UInt8) (hx : l[k]'(by omega) = x) (hy : m[k]'(by omega) = y) :
    bv (List.take (k + 1) (xorT l m n) ++ List.replicate (n - (k + 1)) 0) = (bv (List.take k (xorT l m n) ++ List.replicate (n - k) 0)).set k (.int .u8 (bits .xor .u8 (x.toNat : Int) (y.toNat : Int))) := by
  have hl := xorT_length l m n h1 h2
  rw [xor_cell]
  have hv : (.int .u8 ((x ^^^ y).toNat : Int) : Value) = (fun c : UInt8 => Value.int .u8 (c.toNat : Int)) (x ^^^ y) := rfl
  rw [hv]
  unfold bv
  rw [← List.map_set]
  congr 1
  apply List.ext_getElem?
  intro i
  rw [List.getElem?_set]
  by_cases hi : k = i
  · subst hi
    have : (xorT l m n)[k]? = some (x ^^^ y) := by
      simp [xorT, List.getElem?_zipWith, List.getElem?_take, hk, ← hx, ← hy]
      rw [List.getElem?_eq_getElem (by omega), List.getElem?_eq_getElem (by omega)]
    rw [List.getElem?_append_left (by simp [hl]; omega), List.getElem?_take]
    simp [this, hl]; omega
  · rw [if_neg hi]
    by_cases hi2 : i < k
    · rw [List.getElem?_append_left (by simp [hl]; omega), List.getElem?_append_left (by simp [hl]; omega), List.getElem?_take, List.getElem?_take]
      simp [hi2]; omega
    · rw [List.getElem?_append_right (by simp [hl]; omega), List.getElem?_append_right (by simp [hl]; omega)]
      simp [List.getElem?_replicate, hl, Nat.min_eq_left (show k + 1 ≤ n by omega), Nat.min_eq_left (show k ≤ n by omega)]
      by_cases hin : i < n
      · rw [if_pos (by omega), if_pos (by omega)]
      · rw [if_neg (by omega), if_neg (by omega)]

theorem drew_own {w : World} {base e size n : Nat} {v : Value} {xs : List Value} (h : w.ownsRow base e size v n xs) : w.drew.ownsRow base e size v n xs := h

theorem bits_xor (c d : UInt8) : Crc.bitsOf (c ^^^ d) = List.zipWith (· ^^ ·) (Crc.bitsOf c) (Crc.bitsOf d) := by
  simp only [Crc.bitsOf, UInt8.toNat_xor, Nat.testBit_xor, List.zipWith_cons_cons, List.zipWith_nil_left]

theorem allBits_xor : ∀ (l m : List UInt8), l.length = m.length → Crc.allBits (List.zipWith (· ^^^ ·) l m) = List.zipWith (· ^^ ·) (Crc.allBits l) (Crc.allBits m) := by
  intro l
  induction l with
  | nil => intro m h; cases m with | nil => rfl | cons _ _ => simp at h
  | cons c l ih =>
    intro m h
    cases m with
    | nil => simp at h
    | cons d m =>
      simp only [List.zipWith_cons_cons, Crc.allBits, List.flatMap_cons] at *
      rw [ih m (by simpa using h), bits_xor, List.zipWith_append (by simp [Crc.bitsOf])]

theorem lin1 (l m : List UInt8) (n : Nat) (h1 : n ≤ l.length) (h2 : n ≤ m.length) :
    ((((Crc.on 0#16 (xorT l m n)).toNat : Nat) : Int) == bits .xor .u16 ((Crc.on 0#16 (l.take n)).toNat : Int) ((Crc.on 0#16 (m.take n)).toNat : Int)) = true := by
  have e : Crc.on 0#16 (xorT l m n) = Crc.on 0#16 (l.take n) ^^^ Crc.on 0#16 (m.take n) := by
    unfold Crc.on xorT
    rw [allBits_xor _ _ (by simp; omega)]
    have := Crc.fold_xor (Crc.allBits (l.take n)) (Crc.allBits (m.take n)) 0#16 0#16 (by rw [Crc.allBits_length, Crc.allBits_length]; simp; omega)
    simpa using this
  have hx := (Crc.on 0#16 (l.take n)).isLt
  have hy := (Crc.on 0#16 (m.take n)).isLt
  rw [u16_xor_nat _ _ (by omega) (by omega), e, BitVec.toNat_xor]
  simp

theorem lin2 (l : List UInt8) (s0 s1 : BitVec 16) :
    ((((Crc.on s0 l).toNat : Int) == ((Crc.on s1 l).toNat : Int)) == ((s0.toNat : Int) == (s1.toNat : Int))) = true := by
  by_cases h : s0 = s1
  · subst h; simp
  · have h2 : ¬ Crc.on s0 l = Crc.on s1 l := fun e => h (Crc.fold_inj _ _ _ e)
    have h3 : (((Crc.on s0 l).toNat : Int) == ((Crc.on s1 l).toNat : Int)) = false := by
      rw [beq_eq_false_iff_ne]; intro e; exact h2 (BitVec.eq_of_toNat_eq (by omega))
    have h4 : ((s0.toNat : Int) == (s1.toNat : Int)) = false := by
      rw [beq_eq_false_iff_ne]; intro e; exact h (BitVec.eq_of_toNat_eq (by omega))
    rw [h3, h4]; rfl

set_option maxHeartbeats 1000000 in
theorem linear_walk (l m : List UInt8) (a b : Option Addr) (cap capb : Nat) (s0 s1 : BitVec 16) (w : World) (hl : l.length ≤ maxLen) (hm : m.length ≤ maxLen) (hB : Bytes w a l) (hn : a = none → cap = 0) (hBb : Bytes w b m) (hnb : b = none → capb = 0) (hcl : l.length ≤ cap) (hcm : m.length ≤ capb)
    (n : Nat) (hnn : (if (16384 : Int) < (if (m.length : Int) < (l.length : Int) then (m.length : Int) else (l.length : Int)) then (16384 : Int) else (if (m.length : Int) < (l.length : Int) then (m.length : Int) else (l.length : Int))) = (n : Int)) :
    Calls Try.prog 6 #[.slice a l.length cap, .slice b m.length capb, .agg #[.int .u16 s0.toNat, .int .u16 s1.toNat]] w fun e w' => e = .returned (.bool true) ∧ Below w.heap.size w w' := by
  have hmin : ∀ (ts : Array TypeId) (t : TypeId) (W : World), (Builtin.min_ ts t #[.int .i64 (l.length : Int), .int .i64 (m.length : Int), .int .i64 16384]).run Try.prog W = .ok (.int .i64 (n : Int)) W := fun ts t W => by
    rw [run_min_int3, hnn]
  have hn1 : n ≤ 16384 ∧ n ≤ l.length ∧ n ≤ m.length := by
    split at hnn <;> split at hnn <;> omega
  obtain ⟨hn1, hn2, hn3⟩ := hn1
  clear hnn
  have HB := Lib.hid hB
  have HN := Lib.hid hn
  have HBb := Lib.hid hBb
  have HNb := Lib.hid hnb
  clear hB hn hBb hnb
  unfold maxLen at hl hm
  obtain ⟨i0, hi, hz0, hz1, hz2⟩ := info_parts info_u8
  go_enter Try.func6, Try.ntmps6
  go_wp2_with (at_make; refine wpList_make_full _ rfl (.tmp 15) (.tmp 15) 23 rfl w.heap.size 5 i0 (.int .u8 0) 1 Try.underlying23 hi hz0 hz1 .i64 .i64 _ _ n rfl rfl rfl rfl (by rw [hz2]; omega) (by unfold maxLen; omega) (by simp) ?_)
  intro w1 hown1 hg1
  have hbw : Below w.heap.size w w1 := ((Below.refl _ w).alloc (Nat.le_refl _) _).grown hg1 (by simp) (fun k e => by cases e)
  have hbox := (hg1.block w.heap.size (by simp) (by simp)).trans (heap_alloc_new w _)
  rw [made_bv] at hown1
  have O1 := Lib.hid hown1
  have HX := Lib.hid hbox
  have hgt : w1.heap.size > w.heap.size := by have := hg1.size; simp at this; omega
  clear hown1 hbox hg1
  go_wp2_with fail
  go_loopw [9] (fun i wr => ∃ k : Nat, k ≤ n ∧ i = .int .i64 k ∧ wr.ownsRow w.heap.size 5 1 (.slice (some ⟨w.heap.size + 1, 0, none⟩) n n) n (bv ((xorT l m n).take k ++ List.replicate (n - k) 0)) ∧ Upd (· = w.heap.size + 1) w1 wr) (fun i _ => n - (intOf i).toNat)
  case atStart => exact ⟨0, by omega, rfl, by simpa using O1.out, Upd.refl _ _⟩
  case round =>
    obtain ⟨k, hk, rfl, hown, hu⟩ := hrel
    have O2 := Lib.hid hown
    clear hown
    by_cases hlt : k < n
    · have hba := (HB.out.below hbw).upd hu (fun j hj hj2 e => by
        obtain ⟨j2, hj3, hj4⟩ := HB.out.lt (by rintro rfl; simp at hn2; omega)
        rw [hj3] at hj; cases hj; omega)
      have hbb := (HBb.out.below hbw).upd hu (fun j hj hj2 e => by
        obtain ⟨j2, hj3, hj4⟩ := HBb.out.lt (by rintro rfl; simp at hn3; omega)
        rw [hj3] at hj; cases hj; omega)
      rcases hba with rfl | ⟨ab, ao, rfl, hca⟩
      · simp at hn2; omega
      rcases hbb with rfl | ⟨bb, bo, rfl, hcb⟩
      · simp at hn3; omega
      have hca1 := hca k (by omega)
      have hcb1 := hcb k (by omega)
      generalize hx : l[k]'(by omega) = x at *
      generalize hy : m[k]'(by omega) = y at *
      have hxl := x.toNat_lt
      have hyl := y.toNat_lt
      have Hx := Lib.hid hx
      have Hy := Lib.hid hy
      have hcd := O2.out.cellAt k (by omega)
      have hfd := O2.out.frozenAt k
      have hdl := dcell l m n k hlt hn2 hn3
      rw [hdl] at hcd
      have hk1 : (k : Int) < (l.length : Int) := by omega
      have hk2 : (k : Int) < (m.length : Int) := by omega
      have hk3 : (k : Int) < (n : Int) := by omega
      clear hx hy hca hcb hdl
      go_wp2_with fail
      go_region
      go_wp2_with fail
      go_roundw
      case rel =>
        refine ⟨k + 1, by omega, by go_num, ?_, ?_⟩
        · rw [dstep l m n k hlt hn2 hn3 x y Hx.out Hy.out]
          exact drew_own (O2.out.stored k _).1
        · exact (hu.setCell (p := ⟨w.heap.size + 1, k, none⟩) (fun _ => rfl) _).drew
      case measure => simp [intOf]; omega
    · have hkn : k = n := by omega
      have hdl := xorT_length l m n hn2 hn3
      have hD : Bytes wr (some ⟨w.heap.size + 1, 0, none⟩) (xorT l m n) := by
        have h2 := O2.out
        rw [hkn, Nat.sub_self, List.replicate_zero, List.append_nil, List.take_of_length_le (by omega)] at h2
        exact bytes_of_own h2 _ (List.prefix_refl _)
      have hba : Bytes wr a (l.take n) := by
        by_cases h0 : l = []
        · subst h0; simpa using Bytes.nil wr a
        · refine ((HB.out.below hbw).upd hu (fun j hj hj2 e => ?_)).take n
          obtain ⟨j2, hj3, hj4⟩ := HB.out.lt h0
          rw [hj3] at hj; cases hj; omega
      have hbb : Bytes wr b (m.take n) := by
        by_cases h0 : m = []
        · subst h0; simpa using Bytes.nil wr b
        · refine ((HBb.out.below hbw).upd hu (fun j hj hj2 e => ?_)).take n
          obtain ⟨j2, hj3, hj4⟩ := HBb.out.lt h0
          rw [hj3] at hj; cases hj; omega
      have hbx := hu.block_some HX.out (by omega)
      have hbx2 := lt_of_block hbx
      have hc0 : wr.cell? ⟨w.heap.size, 0, none⟩ = some (.int .u16 (s0.toNat : Int)) := by simp [World.cell?, hbx]
      have hc1 : wr.cell? ⟨w.heap.size, 1, none⟩ = some (.int .u16 (s1.toNat : Int)) := by simp [World.cell?, hbx]
      have hbr := hbw.trans (hu.toBelow (B := w.heap.size) (by omega) (fun j hj e => by omega))
      have K0 : ∀ w', Below wr.heap.size wr w' → w'.cell? ⟨w.heap.size, 0, none⟩ = some (.int .u16 (s0.toNat : Int)) ∧ w'.cell? ⟨w.heap.size, 1, none⟩ = some (.int .u16 (s1.toNat : Int)) ∧ Below wr.heap.size wr w' :=
        fun w' h => ⟨(h.cell (p := ⟨w.heap.size, 0, none⟩) hbx2).trans hc0, (h.cell (p := ⟨w.heap.size, 1, none⟩) hbx2).trans hc1, h⟩
      have KD := Lib.hid (fun w' (h : Below wr.heap.size wr w') => (show Calls Try.prog 11 #[.slice (some ⟨w.heap.size + 1, 0, none⟩) n n] w' (fun e w'' => e = .returned (.int .u16 ((Crc.on 0#16 (xorT l m n)).toNat : Int)) ∧ w''.cell? ⟨w.heap.size, 0, none⟩ = some (.int .u16 (s0.toNat : Int)) ∧ w''.cell? ⟨w.heap.size, 1, none⟩ = some (.int .u16 (s1.toNat : Int)) ∧ Below wr.heap.size wr w'') from by
        have := sum_any (xorT l m n) (some ⟨w.heap.size + 1, 0, none⟩) n w' (by unfold maxLen; omega) (hD.below h)
        rw [hdl] at this
        exact this.mono fun e w'' ⟨he, hb⟩ => ⟨he, K0 _ (h.trans (hb.mono h.size))⟩))
      have KA := Lib.hid (fun w' (h : Below wr.heap.size wr w') => (show Calls Try.prog 11 #[.slice a n cap] w' (fun e w'' => e = .returned (.int .u16 ((Crc.on 0#16 (l.take n)).toNat : Int)) ∧ w''.cell? ⟨w.heap.size, 0, none⟩ = some (.int .u16 (s0.toNat : Int)) ∧ w''.cell? ⟨w.heap.size, 1, none⟩ = some (.int .u16 (s1.toNat : Int)) ∧ Below wr.heap.size wr w'') from by
        have := sum_any (l.take n) a cap w' (by unfold maxLen; simp; omega) (hba.below h)
        rw [List.length_take, Nat.min_eq_left hn2] at this
        exact this.mono fun e w'' ⟨he, hb⟩ => ⟨he, K0 _ (h.trans (hb.mono h.size))⟩))
      have KB := Lib.hid (fun w' (h : Below wr.heap.size wr w') => (show Calls Try.prog 11 #[.slice b n capb] w' (fun e w'' => e = .returned (.int .u16 ((Crc.on 0#16 (m.take n)).toNat : Int)) ∧ w''.cell? ⟨w.heap.size, 0, none⟩ = some (.int .u16 (s0.toNat : Int)) ∧ w''.cell? ⟨w.heap.size, 1, none⟩ = some (.int .u16 (s1.toNat : Int)) ∧ Below wr.heap.size wr w'') from by
        have := sum_any (m.take n) b capb w' (by unfold maxLen; simp; omega) (hbb.below h)
        rw [List.length_take, Nat.min_eq_left hn3] at this
        exact this.mono fun e w'' ⟨he, hb⟩ => ⟨he, K0 _ (h.trans (hb.mono h.size))⟩))
      have KO := Lib.hid (fun (s : BitVec 16) w' (h : Below wr.heap.size wr w') => (show Calls Try.prog 9 #[.int .u16 (s.toNat : Int), .slice (some ⟨w.heap.size + 1, 0, none⟩) n n] w' (fun e w'' => e = .returned (.int .u16 ((Crc.on s (xorT l m n)).toNat : Int)) ∧ w''.cell? ⟨w.heap.size, 0, none⟩ = some (.int .u16 (s0.toNat : Int)) ∧ w''.cell? ⟨w.heap.size, 1, none⟩ = some (.int .u16 (s1.toNat : Int)) ∧ Below wr.heap.size wr w'') from by
        have := on_any s (xorT l m n) (some ⟨w.heap.size + 1, 0, none⟩) n w' (by unfold maxLen; omega) (hD.below h)
        rw [hdl] at this
        exact this.mono fun e w'' ⟨he, hb⟩ => ⟨he, K0 _ (h.trans (hb.mono h.size))⟩))
      have KK := Lib.hid (fun w' (h : Below wr.heap.size wr w') => (show Calls Try.prog 7 #[] w' (fun e w'' => e = .returned (.bool true) ∧ w''.cell? ⟨w.heap.size, 0, none⟩ = some (.int .u16 (s0.toNat : Int)) ∧ w''.cell? ⟨w.heap.size, 1, none⟩ = some (.int .u16 (s1.toNat : Int)) ∧ Below wr.heap.size wr w'') from
        (known_any w').mono fun e w'' ⟨he, hb⟩ => ⟨he, K0 _ (h.trans (hb.mono h.size))⟩))
      have hx1 := lin1 l m n hn2 hn3
      have hx2 := lin2 (xorT l m n) s0 s1
      have hci : (n : Int) ≤ (cap : Int) := by omega
      have hci2 : (n : Int) ≤ (capb : Int) := by omega
      clear O2 hD hba hbb K0 O1 HX HB HBb hdl hbx
      go_wp2_with fail
      go_region_held3 (fun w' => w'.cell? ⟨w.heap.size, 0, none⟩ = some (.int .u16 (s0.toNat : Int)) ∧ w'.cell? ⟨w.heap.size, 1, none⟩ = some (.int .u16 (s1.toNat : Int)) ∧ Below wr.heap.size wr w') (first | assumption | exact ⟨hc0, hc1, (Below.refl _ _).drew⟩) (first
        | (go_at_call 11; (with_reducible refine (KD.out _ (And.right (And.right (by assumption)))).mono ?_); rintro e w' ⟨rfl, hS⟩)
        | (go_at_call 11; (with_reducible refine (KA.out _ (And.right (And.right (by assumption)))).mono ?_); rintro e w' ⟨rfl, hS⟩)
        | (go_at_call 11; (with_reducible refine (KB.out _ (And.right (And.right (by assumption)))).mono ?_); rintro e w' ⟨rfl, hS⟩)
        | (go_at_call 9; refine (KO.out _ _ (And.right (And.right (by assumption)))).mono ?_; rintro e w' ⟨rfl, hS⟩)
        | (go_at_call 7; refine (KK.out _ (And.right (And.right (by assumption)))).mono ?_; rintro e w' ⟨rfl, hS⟩))
      go_wp2_with fail
      go_ret
      exact ⟨rfl, hbr.trans (Below.mono (And.right (And.right (by assumption))) hbr.size)⟩

theorem IsRow.le_cap {k : IntKind} {w : World} {a : Option Addr} {len cap : Nat} {zs : List Int} (h : IsRow k w a len cap zs) : len ≤ cap := by
  rcases h with ⟨rfl, rfl, rfl, rfl⟩ | ⟨x, rfl, hl, _⟩
  · exact Nat.le_refl _
  · exact hl

theorem open_pair {H : Type} {enc : TypeId × Value → H} {w : World} {base : Nat} {v : Value} {d : DataW H} {p : List MemPlace} (ok : Value.okWide Try.prog w .any base 35 v) (k : DataW.Trod enc Try.prog w 0 (fun _ => true) true 35 v d p) :
    ∃ s0 s1 : BitVec 16, v = .agg #[.int .u16 (s0.toNat : Int), .int .u16 (s1.toNat : Int)] := by
  simp only [Value.okWide, Try.underlying35] at ok
  obtain ⟨cs, rfl, hsz, _⟩ := ok
  have hC : Try.prog.cellsOf 35 = 2 := by kernel_rfl
  have hE : Try.prog.cellsOf 22 = 1 := by kernel_rfl
  obtain ⟨c0, c1, rfl⟩ := Joins.array2 (hsz.trans hC)
  obtain ⟨fuel, hf⟩ := k
  obtain ⟨xs, m, _, _, _, hlen, hall⟩ := DataW.trod_array Try.underlying35 hf
  have h0 := hall 0 (by omega)
  have h1 := hall 1 (by omega)
  rw [hE, List.getElem?_eq_getElem (by omega)] at h0 h1
  simp [Value.cells] at h0 h1
  obtain ⟨x, hx, _, wx⟩ := DataW.trod_int Try.underlying22 h0
  obtain ⟨y, hy, _, wy⟩ := DataW.trod_int Try.underlying22 h1
  simp at hx hy
  subst hx hy
  obtain ⟨s0, rfl⟩ := u16_of wx
  obtain ⟨s1, rfl⟩ := u16_of wy
  exact ⟨s0, s1, rfl⟩

theorem linear_frame {H : Type} {enc : TypeId × Value → H} {base : Nat} {d2 : DataW H} {p2 : List MemPlace} (a0 : Option Addr) (len0 cap0 : Nat) (z0 : List Int) (a1 : Option Addr) (len1 cap1 : Nat) (z1 : List Int) (v2 : Value) (w : World)
    (w0 : IsRow .u8 w a0 len0 cap0 z0) (w1 : IsRow .u8 w a1 len1 cap1 z1) (ok2 : Value.okWide Try.prog w .any base 35 v2) (k2 : DataW.Trod enc Try.prog w 0 (fun _ => true) true 35 v2 d2 p2) :
    Calls Try.prog 6 #[.slice a0 len0 cap0, .slice a1 len1 cap1, v2] w fun e w' => e = .returned (.bool true) ∧ Below w.heap.size w w' := by
  obtain ⟨s0, s1, rfl⟩ := open_pair ok2 k2
  have c0 := w0.le_cap
  have c1 := w1.le_cap
  obtain ⟨l, rfl, hB, hn, hl⟩ := w0.bytes
  obtain ⟨m, rfl, hBb, hnb, hm⟩ := w1.bytes
  exact linear_walk l m a0 a1 cap0 cap1 s0 s1 w hl hm hB hn hBb hnb c0 c1 (min (min l.length m.length) 16384) (by split <;> split <;> omega)
end Go.Proofs.Ytgbjdejbldifcaa
