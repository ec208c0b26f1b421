/-
  Small words on worlds that all seats of this set share: 'Upd S w w'': of the blocks that were there, those outside S are as they were.
-/
import Derived.WalkKit
import Derived.WalkSpells
import Derived.WalkLawsBesides
import Derived.Lib.Hide
import Derived.Laws.AppendOwnNone
set_option linter.unusedSimpArgs false
set_option linter.unusedVariables false
namespace Go.Proofs.Ytlhbgikgaoeciaa
open Go.RowKit

structure Upd (S : Nat → Prop) (w w' : World) : Prop where
  os : w'.os = w.os
  tape : w'.tape = w.tape
  output : w'.output = w.output
  size : w.heap.size ≤ w'.heap.size
  block : ∀ k, k < w.heap.size → ¬ S k → w'.heap[k]? = w.heap[k]?

namespace Upd
variable {S T : Nat → Prop} {a b c w w' : World}

theorem refl (S : Nat → Prop) (w : World) : Upd S w w := ⟨rfl, rfl, rfl, Nat.le_refl _, fun _ _ _ => rfl⟩

theorem trans (h : Upd S a b) (k : Upd T b c) (hs : ∀ i, i < a.heap.size → T i → S i) : Upd S a c :=
  ⟨k.os.trans h.os, k.tape.trans h.tape, k.output.trans h.output, Nat.le_trans h.size k.size,
   fun i hi hn => (k.block i (Nat.lt_of_lt_of_le hi h.size) (fun ht => hn (hs i hi ht))).trans (h.block i hi hn)⟩

theorem mono (h : Upd S w w') (hs : ∀ i, i < w.heap.size → S i → T i) : Upd T w w' :=
  ⟨h.os, h.tape, h.output, h.size, fun i hi hn => h.block i hi (fun t => hn (hs i hi t))⟩

theorem drew (h : Upd S a w) : Upd S a w.drew := ⟨h.os, h.tape, h.output, h.size, h.block⟩

theorem drewN (h : Upd S a w) (n : Nat) : Upd S a (w.drewN n) := ⟨h.os, h.tape, h.output, h.size, h.block⟩

theorem alloc (h : Upd S a w) (o : Obj) : Upd S a (w.alloc o) :=
  h.trans (T := fun _ => False) ⟨rfl, rfl, rfl, by simp, fun k hk _ => Below.heap_alloc _ _ _ (by omega)⟩ (fun _ _ f => f.elim)

theorem setCell (h : Upd S a w) {p : Addr} (hp : p.block < a.heap.size → S p.block) (u : Value) : Upd S a (w.setCell p u) :=
  h.trans (T := fun k => k = p.block) ⟨rfl, rfl, rfl, by simp [World.setCell], fun k hk hn => Below.heap_setCell _ _ _ _ hn⟩ (fun i hi e => e ▸ hp (e ▸ hi))

theorem grown {row : Option Nat} (h : Upd S a w) (hg : w.grownBy w' row) (hr : ∀ k, row = some k → k < a.heap.size → S k) : Upd S a w' :=
  h.trans (T := fun k => row = some k) ⟨hg.os, hg.tape, hg.output, hg.size, fun k hk hn => hg.block k hk (fun e => hn e.symm)⟩ (fun i hi e => hr i e hi)

theorem below {B : Nat} (h : Upd S a w) (hk : Below B w w') (hs : ∀ i, i < a.heap.size → B ≤ i → S i) : Upd S a w' :=
  h.trans (T := fun k => B ≤ k) ⟨hk.os, hk.tape, hk.output, hk.size, fun k _ hn => hk.block k (by omega)⟩ hs

theorem toBelow {B : Nat} (h : Upd S w w') (hB : B ≤ w.heap.size) (hs : ∀ i, i < B → ¬ S i) : Below B w w' :=
  ⟨h.os, h.tape, h.output, h.size, fun k hk => h.block k (by omega) (hs k hk)⟩

theorem ofBelow {B : Nat} (h : Below B w w') : Upd (fun i => B ≤ i) w w' :=
  ⟨h.os, h.tape, h.output, h.size, fun k _ hn => h.block k (by omega)⟩

theorem ofBelow' (h : Below w.heap.size w w') : Upd S w w' := ⟨h.os, h.tape, h.output, h.size, fun k hk _ => h.block k hk⟩

theorem cell (h : Upd S w w') {p : Addr} (hp : p.block < w.heap.size) (hn : ¬ S p.block) : w'.cell? p = w.cell? p := World.cell?_of_block (h.block _ hp hn)
theorem frozen (h : Upd S w w') {p : Addr} (hp : p.block < w.heap.size) (hn : ¬ S p.block) : w'.frozen? p = w.frozen? p := World.frozen?_of_block (h.block _ hp hn)
theorem cell_some (h : Upd S w w') {p : Addr} {v : Value} (hc : w.cell? p = some v) (hn : ¬ S p.block) : w'.cell? p = some v := (h.cell (World.block_lt_of_cell? w p hc) hn).trans hc
theorem block_some (h : Upd S w w') {k : Nat} {o : Obj} (hc : w.heap[k]? = some o) (hn : ¬ S k) : w'.heap[k]? = some o := (h.block k (lt_of_block hc) hn).trans hc
end Upd

/-- What a slice of bytes reads as: the bytes l. -/
def Bytes (w : World) (a : Option Addr) (l : List UInt8) : Prop :=
  l = [] ∨ ∃ b off, a = some ⟨b, off, none⟩ ∧ ∀ i (h : i < l.length), w.cell? ⟨b, off + i, none⟩ = some (.int .u8 (l[i].toNat : Int))

theorem Bytes.nil (w : World) (a : Option Addr) : Bytes w a [] := .inl rfl

/-- The block of a slice's address. -/
def blk (a : Option Addr) : Option Nat := a.map (·.block)

theorem Bytes.keep {w w' : World} {a : Option Addr} {l : List UInt8} (h : Bytes w a l) (hk : ∀ p v, w.cell? p = some v → some p.block = blk a → w'.cell? p = some v) : Bytes w' a l := by
  rcases h with h | ⟨b, off, rfl, hc⟩
  · exact .inl h
  · exact .inr ⟨b, off, rfl, fun i hi => hk _ _ (hc i hi) rfl⟩

theorem Bytes.upd {w w' : World} {S : Nat → Prop} {a : Option Addr} {l : List UInt8} (h : Bytes w a l) (hu : Upd S w w') (hn : ∀ k, blk a = some k → k < w.heap.size → ¬ S k) : Bytes w' a l :=
  h.keep (fun p v hc hp => hu.cell_some hc (hn _ hp.symm (World.block_lt_of_cell? w p hc)))

theorem Bytes.below {w w' : World} {a : Option Addr} {l : List UInt8} (h : Bytes w a l) (hu : Below w.heap.size w w') : Bytes w' a l :=
  h.keep (fun p v hc hp => (hu.cell (World.block_lt_of_cell? w p hc)).trans hc)

theorem Bytes.take {w : World} {a : Option Addr} {l : List UInt8} (h : Bytes w a l) (n : Nat) : Bytes w a (l.take n) := by
  rcases h with rfl | ⟨b, off, rfl, hc⟩
  · exact .inl (by simp)
  · exact .inr ⟨b, off, rfl, fun i hi => by
      have : i < l.length := by simp at hi; omega
      rw [hc i this]; simp⟩


theorem i64_xor_nat (a b : Nat) (ha : a < 2 ^ 62) (hb : b < 2 ^ 62) : bits .xor .i64 (a : Int) (b : Int) = ((a ^^^ b : Nat) : Int) := by
  have ha' : a % 2 ^ IntKind.i64.bits = a := Nat.mod_eq_of_lt (Nat.lt_of_lt_of_le ha (by decide))
  have hb' : b % 2 ^ IntKind.i64.bits = b := Nat.mod_eq_of_lt (Nat.lt_of_lt_of_le hb (by decide))
  have hx := Nat.xor_lt_two_pow ha hb
  simp only [bits, BitVec.ofInt_natCast, BitVec.toNat_xor, BitVec.toNat_ofNat, ha', hb']
  rw [IntKind.wrap_i64]; omega

theorem i64_or_nat (a b : Nat) (ha : a < 2 ^ 62) (hb : b < 2 ^ 62) : bits .or .i64 (a : Int) (b : Int) = ((a ||| b : Nat) : Int) :=
  (bits_nat .i64 62 (by decide) (fun n h0 h1 => by rw [IntKind.wrap_i64]; omega) a b ha hb).2

theorem i64_and_nat (a b : Nat) (ha : a < 2 ^ 62) (hb : b < 2 ^ 62) : bits .and .i64 (a : Int) (b : Int) = ((a &&& b : Nat) : Int) :=
  (bits_nat .i64 62 (by decide) (fun n h0 h1 => by rw [IntKind.wrap_i64]; omega) a b ha hb).1

theorem Bytes.lt {w : World} {a : Option Addr} {l : List UInt8} (h : Bytes w a l) (hl : l ≠ []) : ∃ k, blk a = some k ∧ k < w.heap.size := by
  rcases h with rfl | ⟨b, off, rfl, hc⟩
  · exact absurd rfl hl
  · exact ⟨b, rfl, World.block_lt_of_cell? w _ (hc 0 (List.length_pos_iff.2 hl))⟩

/-- 'append(s, x...)', s nil or the call's own, x whatever: nil, empty, or a row of cells. -/
theorem wpList_append_any {P : Program} {w : World} {ops : Array Oper} {rest : List Oper} {o : Oper} {a : Act} {Q : Exit → Act → World → Prop} (hgd : o.guard = none) (s x : Operand) (t : TypeId)
    (ho : o.op = .call { callee := .builtin .append, args := #[s, x], argTypes := #[t, t] })
    (base : Nat) (e : TypeId) (z : Value) (size bytes : Nat) (ht : P.underlying t = some (.slice e)) (hinfo : (P.info? e).map (fun i => (i.zero, i.size, i.bytes)) = some (some z, size, bytes))
    (hzs : z.cells.size = size) (hsz : 0 < size)
    (v : Value) (n : Nat) (xs : List Value) (hs : a.eval s = v) (hown : w.ownsRow base e size v n xs)
    (ax : Option Addr) (m c : Nat) (news : List Value) (hx : a.eval x = .slice ax m c) (hnil : ax = none → m = 0 ∧ c = 0) (hl : news.length = m * size)
    (hnews : ∀ ad, ax = some ad → ∀ j u, news[j]? = some u → w.cell? (ad.add j) = some u) (h1 : ∀ u ∈ news, u.oneCell' = true)
    (h63 : n + m ≤ maxLen) (hbytes : (n + m) * bytes ≤ 140737488355328) (hbase : base ≤ w.heap.size)
    (h : ∀ v' w', w'.ownsRow base e size v' (n + m) (xs ++ news) → w.grownBy w' v.ownBlock → wpList P ops Q rest (a.put o.dst v') w') : wpList P ops Q (o :: rest) a w := by
  obtain ⟨i0, hi, hz0, hz1, hz2⟩ := info_parts hinfo
  cases ax with
  | none =>
    obtain ⟨rfl, rfl⟩ := hnil rfl
    have hnews0 : news = [] := List.length_eq_zero_iff.1 (by simpa using hl)
    subst hnews0
    refine wpList_append_own_none hgd s x t ho base e i0 size ht hi v n xs hs hown hx ?_
    exact h v w (by simpa using hown) (World.grownBy.refl _ _)
  | some ad =>
    exact wpList_append_own w hgd s x t ho base e i0 z size bytes ht hi hz0 hz1 hz2 hzs hsz v n xs hs hown ad m c news hx hl (hnews ad rfl) h1 h63 hbytes hbase (fun v' w' h2 h3 _ => h v' w' h2 h3)

/-- WHAT THE WALK IS TOLD OF A SLICE OF INTEGERS THAT CAME IN: it is nil; or it leads to a row of 'cap' cells. -/
def IsRow (k : IntKind) (w : World) (a : Option Addr) (len cap : Nat) (zs : List Int) : Prop :=
  (a = none ∧ len = 0 ∧ cap = 0 ∧ zs = []) ∨
  ∃ x, a = some x ∧ len ≤ cap ∧ cap ≤ maxLen ∧ zs.length = cap ∧ (∀ i, i < zs.length → w.cell? (x.add i) = some (.int k (zs.getD i 0))) ∧ ∀ n ∈ zs, (Lit.int k n).wf = true

theorem wf_bounds {k : IntKind} {n : Int} (h : (Lit.int k n).wf = true) : k.min ≤ n ∧ n ≤ k.max := by
  simp only [Lit.wf, Bool.and_eq_true, decide_eq_true_eq] at h; exact h

theorem u16_of {n : Int} (h : (Lit.int .u16 n).wf = true) : ∃ s : BitVec 16, n = (s.toNat : Int) := by
  have := wf_bounds h
  have h0 : IntKind.u16.min = 0 := rfl
  have h1 : IntKind.u16.max = 65535 := rfl
  exact ⟨BitVec.ofNat 16 n.toNat, by rw [BitVec.toNat_ofNat, Nat.mod_eq_of_lt (by omega)]; omega⟩

theorem u8_of {n : Int} (h : (Lit.int .u8 n).wf = true) : ∃ s : UInt8, n = (s.toNat : Int) := by
  have := wf_bounds h
  have h0 : IntKind.u8.min = 0 := rfl
  have h1 : IntKind.u8.max = 255 := rfl
  exact ⟨UInt8.ofNat n.toNat, by rw [UInt8.toNat_ofNat', Nat.mod_eq_of_lt (by omega)]; omega⟩

theorem IsRow.bytes {w : World} {a : Option Addr} {len cap : Nat} {zs : List Int} (h : IsRow .u8 w a len cap zs) :
    ∃ l : List UInt8, l.length = len ∧ Bytes w a l ∧ (a = none → cap = 0) ∧ len ≤ maxLen := by
  rcases h with ⟨rfl, rfl, rfl, rfl⟩ | ⟨x, rfl, hl, hm, hz, hc, hw⟩
  · exact ⟨[], rfl, .inl rfl, fun _ => rfl, Nat.zero_le _⟩
  · refine ⟨(zs.take len).map (fun z => UInt8.ofNat z.toNat), by simp; omega, ?_, (fun h => by cases h), by omega⟩
    by_cases h0 : len = 0
    · exact .inl (by simp [h0])
    · have hsp := World.cell?_spot (hc 0 (by omega))
      obtain ⟨b, off, spot⟩ := x
      have : spot = none := by simpa [Addr.add] using hsp
      subst this
      refine .inr ⟨b, off, rfl, fun i hi => ?_⟩
      have hi2 : i < zs.length := by simp at hi; omega
      have := hc i hi2
      rw [Addr.add_lit] at this
      rw [this]
      obtain ⟨u, hu⟩ := u8_of (hw (zs.getD i 0) (by simp [List.getD, hi2]))
      rw [hu]
      have hg : zs[i] = (u.toNat : Int) := by rw [← hu]; simp [List.getD, hi2]
      simp [hg]

theorem own_cap {w : World} {base e size g n cap : Nat} {xs : List Value} (h : w.ownsRow base e size (.slice (some ⟨g, 0, none⟩) n cap) n xs) : n ≤ cap ∧ cap ≤ maxLen := by
  rcases h.2 with ⟨e, _⟩ | ⟨g', cap', cur, e, _, _, h1, h2, _⟩
  · cases e
  · cases e; exact ⟨h1, h2⟩

theorem own_shape {w : World} {base e size n : Nat} {v : Value} {xs : List Value} (h : w.ownsRow base e size v n xs) (hn : 0 < n) : ∃ g cap, v = .slice (some ⟨g, 0, none⟩) n cap ∧ base ≤ g ∧ g < w.heap.size := by
  rcases h.2 with ⟨_, rfl⟩ | ⟨g, cap, cur, rfl, hb, hh, _⟩
  · omega
  · exact ⟨g, cap, rfl, hb, lt_of_block hh⟩

theorem own_below {w w' : World} {base e size n : Nat} {v : Value} {xs : List Value} (h : w.ownsRow base e size v n xs) (hb : Below w.heap.size w w') : w'.ownsRow base e size v n xs := by
  refine ⟨h.1, ?_⟩
  rcases h.2 with hn | ⟨g, cap, cur, rfl, hg, hh, rest⟩
  · exact .inl hn
  · exact .inr ⟨g, cap, cur, rfl, hg, (hb.block g (lt_of_block hh)).trans hh, rest⟩

end Go.Proofs.Ytlhbgikgaoeciaa
