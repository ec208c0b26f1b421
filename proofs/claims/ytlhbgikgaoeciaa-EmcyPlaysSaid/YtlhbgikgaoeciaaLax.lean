/-
  Rows in memory that may be shorter than their block; append onto such a row; append of zeros.
-/
import Derived.Test.YtlhbgikgaoeciaaKit
import Derived.Test.YtlhbgikgaoeciaaAid
import Derived.Laws.AppendOwn
import Derived.Laws.OwnMore
import Derived.Deep.AppendLies
set_option linter.unusedSimpArgs false
set_option linter.unusedVariables false
namespace Go.Proofs.Ytlhbgikgaoeciaa
open Go.RowKit

/-- A row whose block may be longer than its capacity says. -/
def Lax (w : World) (e : TypeId) (size : Nat) (v : Value) (n : Nat) (xs : List Value) : Prop :=
  xs.length = n * size ∧ ((v = .slice none 0 0 ∧ n = 0) ∨ ∃ g cap cur, v = .slice (some ⟨g, 0, none⟩) n cap ∧ w.heap[g]? = some (.cells cur e (0, 0)) ∧ n ≤ cap ∧ cap ≤ maxLen ∧ cap * size ≤ cur.size ∧ cur.toList.take (n * size) = xs)

theorem Lax.of_own {w : World} {base e size n : Nat} {v : Value} {xs : List Value} (h : w.ownsRow base e size v n xs) : Lax w e size v n xs := by
  refine ⟨h.1, ?_⟩
  rcases h.2 with h | ⟨g, cap, cur, rfl, hb, hg, h1, h2, h3, h4⟩
  · exact .inl h
  · exact .inr ⟨g, cap, cur, rfl, hg, h1, h2, by omega, h4⟩
theorem Lax.shape {w : World} {e size n : Nat} {v : Value} {xs : List Value} (h : Lax w e size v n xs) : ∃ a c, v = .slice a n c ∧ (a = none → n = 0 ∧ c = 0) ∧ n ≤ c ∧ c ≤ maxLen := by
  rcases h.2 with ⟨rfl, rfl⟩ | ⟨g, cap, cur, rfl, hg, h1, h2, _⟩
  · exact ⟨none, 0, rfl, fun _ => ⟨rfl, rfl⟩, by omega, Nat.zero_le _⟩
  · exact ⟨_, cap, rfl, (fun h => by cases h), h1, h2⟩
theorem Lax.keep {w w' : World} {e size n : Nat} {v : Value} {xs : List Value} (h : Lax w e size v n xs) (hk : ∀ g, v.ownBlock = some g → w'.heap[g]? = w.heap[g]?) : Lax w' e size v n xs := by
  refine ⟨h.1, ?_⟩
  rcases h.2 with h | ⟨g, cap, cur, rfl, hg, rest⟩
  · exact .inl h
  · exact .inr ⟨g, cap, cur, rfl, (hk g rfl).trans hg, rest⟩
theorem Lax.lt {w : World} {e size n : Nat} {v : Value} {xs : List Value} (h : Lax w e size v n xs) : ∀ g, v.ownBlock = some g → g < w.heap.size ∧ ∃ cur, w.heap[g]? = some (.cells cur e (0, 0)) := by
  intro g hg
  rcases h.2 with ⟨rfl, _⟩ | ⟨g', cap, cur, rfl, hh, _⟩
  · cases hg
  · cases hg; exact ⟨lt_of_block hh, cur, hh⟩
theorem Lax.upd {S : Nat → Prop} {w w' : World} {e size n : Nat} {v : Value} {xs : List Value} (h : Lax w e size v n xs) (hu : Upd S w w') (hS : ∀ g, v.ownBlock = some g → ¬ S g) : Lax w' e size v n xs :=
  h.keep fun g hg => hu.block g (h.lt g hg).1 (hS g hg)
theorem Lax.below {w w' : World} {e size n : Nat} {v : Value} {xs : List Value} (h : Lax w e size v n xs) (hb : Below w.heap.size w w') : Lax w' e size v n xs :=
  h.upd (Upd.ofBelow' (S := fun _ => False) hb) (fun _ _ h => h)
/-- The j-th cell. -/
theorem Lax.cell {w : World} {e size n g c : Nat} {xs : List Value} (h : Lax w e size (.slice (some ⟨g, 0, none⟩) n c) n xs) {j : Nat} {u : Value} (hu : xs[j]? = some u) : w.cell? ⟨g, j, none⟩ = some u := by
  rcases h.2 with ⟨h0, _⟩ | ⟨g', cap, cur, e1, hh, h1, h2, h3, h4⟩
  · cases h0
  · cases e1
    rw [← h4, List.getElem?_take] at hu
    split at hu
    · simp [World.cell?, hh]; simpa using hu
    · cases hu
theorem Lax.at0 {w : World} {e size n c : Nat} {a : Option Addr} {xs : List Value} (h : Lax w e size (.slice a n c) n xs) (hn : 0 < n) : ∃ g, a = some ⟨g, 0, none⟩ := by
  rcases h.2 with ⟨h0, rfl⟩ | ⟨g', cap, cur, e1, _⟩
  · omega
  · cases e1; exact ⟨g', rfl⟩
theorem Lax.news {w : World} {e size n c : Nat} {a : Option Addr} {xs : List Value} (h : Lax w e size (.slice a n c) n xs) : ∀ ad, a = some ad → ∀ j u, xs[j]? = some u → w.cell? (ad.add j) = some u := by
  intro ad ha j u hu
  subst ha
  rcases h.2 with ⟨h0, _⟩ | ⟨g', cap, cur, e1, hh, h1, h2, h3, h4⟩
  · cases h0
  · cases e1
    rw [Addr.add_lit, Nat.zero_add]
    exact h.cell hu

/-- append onto such a row. -/
theorem run_append_lax {P : Program} (w : World) (t ty e : TypeId) (i : TypeInfo) (z : Value) (size bytes : Nat) (ht : P.underlying t = some (.slice e)) (hi : P.info? e = some i) (hz : i.zero = some z)
    (hsize : i.size = size) (hby : i.bytes = bytes) (hzs : z.cells.size = size) (hsz : 0 < size)
    (v : Value) (n : Nat) (xs : List Value) (hlax : Lax w e size v n xs)
    (a : Addr) (m c : Nat) (news : List Value) (hl : news.length = m * size) (hnews : ∀ j u, news[j]? = some u → w.cell? (a.add j) = some u) (h1 : ∀ u ∈ news, u.oneCell' = true)
    (hm : 0 < m) (h63 : n + m ≤ maxLen) (hbytes : (n + m) * bytes ≤ 140737488355328) :
    ∃ g cap w', (Builtin.append_ #[t, t] ty #[v, .slice (some a) m c]).run P w = .ok (.slice (some ⟨g, 0, none⟩) (n + m) cap) w' ∧ Lax w' e size (.slice (some ⟨g, 0, none⟩) (n + m) cap) (n + m) (xs ++ news) ∧ w.grownBy w' v.ownBlock ∧
      (v.ownBlock = some g ∨ g = w.heap.size) := by
  rcases hlax.2 with ⟨rfl, rfl⟩ | ⟨g, cap, cur, rfl, hg, hnc, hcm, hcs, htake⟩
  · have hx : xs = [] := List.eq_nil_of_length_eq_zero (by simpa using hlax.1)
    subst hx
    obtain ⟨g, cap, w', hr, h2, h3, h4, h5⟩ := run_append_lies (P := P) w t ty w.heap.size e i z size bytes ht hi hz hsize hby hzs hsz (.slice none 0 0) 0 [] (World.ownsRow_nil w w.heap.size e size) a m c news hl hnews h1 hm h63 hbytes (Nat.le_refl _) _ rfl
    exact ⟨g, cap, w', hr, Lax.of_own h2, h3, h4⟩
  · subst hsize
    subst hby
    have hlen : (xs ++ news).length = (n + m) * i.size := by rw [List.length_append, hlax.1, hl, Nat.add_mul]
    have holds : ∀ j u, xs[j]? = some u → w.cell? ((⟨g, 0, none⟩ : Addr).add j) = some u := fun j u hu => by
      rw [Addr.add_lit, Nat.zero_add]; exact hlax.cell hu
    by_cases hroom : n + m ≤ cap
    · have hfit : n * i.size + news.length ≤ cur.size := by rw [hl, ← Nat.add_mul]; exact Nat.le_trans (Nat.mul_le_mul_right _ hroom) hcs
      have hr := run_append_room (P := P) w t ty e i ht hi g n cap cur hg a m c news hl hnews h1 hroom hfit
      refine ⟨g, cap, _, hr, ⟨hlen, .inr ⟨g, cap, _, rfl, setRow_heap w g cur _ e _ hg, hroom, hcm, ?_, ?_⟩⟩, ⟨rfl, rfl, rfl, by simp, fun k _ hk => setRow_other w g k _ (fun e => hk (by simp [Value.ownBlock, e]))⟩, .inl rfl⟩
      · simp only [List.size_toArray, List.length_append, List.length_take, List.length_drop, Array.length_toList]
        omega
      · rw [htake, ← hlen]
        exact List.take_left
    · have hr := run_append_grow (P := P) w t ty e i z ht hi hz ⟨g, 0, none⟩ n cap xs hlax.1 holds a m c news hl hnews (by omega) (by simp only [maxLen] at h63; omega) (growslice_fits (by omega) hbytes)
      have hge := grownCap_ge w (n + m) cap e
      have hcm2 : grownCap w (n + m) cap e ≤ maxLen := grownCap_le_maxLen w (n + m) cap e h63
      refine ⟨w.heap.size, _, _, hr, ⟨hlen, .inr ⟨w.heap.size, _, _, rfl, heap_alloc_new w.drew _, hge, hcm2, ?_, ?_⟩⟩, ⟨rfl, rfl, rfl, by simp, fun k hk _ => (heap_alloc_old w.drew _ hk)⟩, .inr rfl⟩
      · simp only [Array.size_append, List.size_toArray, size_zeroCells, hzs, hlax.1, hl, ← Nat.add_mul]
        exact Nat.mul_le_mul_right _ (by omega)
      · simp only [Array.toList_append, List.append_assoc]
        rw [← List.append_assoc, ← hlen]
        exact List.take_left

theorem wpList_append_lax {P : Program} {w : World} {ops : Array Oper} {rest : List Oper} {o : Oper} {a : Act} {Q : Exit → Act → World → Prop} (hgd : o.guard = none) (s x : Operand) (t : TypeId)
    (ho : o.op = .call { callee := .builtin .append, args := #[s, x], argTypes := #[t, t] })
    (e : TypeId) (z : Value) (size bytes : Nat) (ht : P.underlying t = some (.slice e)) (hinfo : (P.info? e).map (fun i => (i.zero, i.size, i.bytes)) = some (some z, size, bytes))
    (hzs : z.cells.size = size) (hsz : 0 < size)
    (v : Value) (n : Nat) (xs : List Value) (hs : a.eval s = v) (hlax : Lax w e size v n xs)
    (ad : Addr) (m c : Nat) (news : List Value) (hx : a.eval x = .slice (some ad) m c) (hl : news.length = m * size)
    (hnews : ∀ j u, news[j]? = some u → w.cell? (ad.add j) = some u) (h1 : ∀ u ∈ news, u.oneCell' = true)
    (hm : 0 < m) (h63 : n + m ≤ maxLen) (hbytes : (n + m) * bytes ≤ 140737488355328)
    (h : ∀ g cap w', Lax w' e size (.slice (some ⟨g, 0, none⟩) (n + m) cap) (n + m) (xs ++ news) → w.grownBy w' v.ownBlock → (v.ownBlock = some g ∨ g = w.heap.size) → wpList P ops Q rest (a.put o.dst (.slice (some ⟨g, 0, none⟩) (n + m) cap)) w') : wpList P ops Q (o :: rest) a w := by
  obtain ⟨i0, hi, hz0, hz1, hz2⟩ := info_parts hinfo
  obtain ⟨g, cap, w', hr, h2, h3, h4⟩ := run_append_lax (P := P) w t o.type e i0 z size bytes ht hi hz0 hz1 hz2 hzs hsz v n xs hlax ad m c news hl hnews h1 hm h63 hbytes
  refine wpList_plain hgd fun K hK => ?_
  unfold Oper.wp execOp
  simp only [ho, resolve, invoke, builtin, Sem.run_bind, Sem.run_pure, Result.andThen_ok, List.map_toArray, List.map_cons, List.map_nil, hs, hx, hr]
  exact hK _ _ (h g cap w' h2 h3 h4)

theorem step_append_lax {P : Program} {w : World} {ops : Array Oper} {o : Oper} {a : Act} {K : Act → World → Prop} {Q : Exit → Act → World → Prop} {E : Prop} (hgd : o.guard = none) (s x : Operand) (t : TypeId)
    (ho : o.op = .call { callee := .builtin .append, args := #[s, x], argTypes := #[t, t] })
    (e : TypeId) (z : Value) (size bytes : Nat) (ht : P.underlying t = some (.slice e)) (hinfo : (P.info? e).map (fun i => (i.zero, i.size, i.bytes)) = some (some z, size, bytes))
    (hzs : z.cells.size = size) (hsz : 0 < size)
    (v : Value) (n : Nat) (xs : List Value) (hs : a.eval s = v) (hlax : Lax w e size v n xs)
    (ad : Addr) (m c : Nat) (news : List Value) (hx : a.eval x = .slice (some ad) m c) (hl : news.length = m * size)
    (hnews : ∀ j u, news[j]? = some u → w.cell? (ad.add j) = some u) (h1 : ∀ u ∈ news, u.oneCell' = true)
    (hm : 0 < m) (h63 : n + m ≤ maxLen) (hbytes : (n + m) * bytes ≤ 140737488355328)
    (h : ∀ g cap w', Lax w' e size (.slice (some ⟨g, 0, none⟩) (n + m) cap) (n + m) (xs ++ news) → w.grownBy w' v.ownBlock → (v.ownBlock = some g ∨ g = w.heap.size) → K (a.put o.dst (.slice (some ⟨g, 0, none⟩) (n + m) cap)) w') :
    if Region.wanted o (yielded ops a.tmps) = true then Oper.wp P o a w K Q else E := by
  have hw : Region.wanted o (yielded ops a.tmps) = true := by simp [Region.wanted, hgd]
  rw [if_pos hw]
  obtain ⟨i0, hi, hz0, hz1, hz2⟩ := info_parts hinfo
  obtain ⟨g, cap, w', hr, h2, h3, h4⟩ := run_append_lax (P := P) w t o.type e i0 z size bytes ht hi hz0 hz1 hz2 hzs hsz v n xs hlax ad m c news hl hnews h1 hm h63 hbytes
  unfold Oper.wp execOp
  simp only [ho, resolve, invoke, builtin, Sem.run_bind, Sem.run_pure, Result.andThen_ok, List.map_toArray, List.map_cons, List.map_nil, hs, hx, hr]
  exact h g cap w' h2 h3 h4

/-- append(b, make([]T, m)...): zeros behind. -/
theorem run_append_zeros {P : Program} (w : World) (m : Nat) (t ti ty e : TypeId) (i : TypeInfo) (z : Value) (size bytes : Nat) (ht : P.underlying t = some (.slice e)) (hti : P.underlying ti = some (.int .i64)) (hi : P.info? e = some i) (hz : i.zero = some z)
    (hsize : i.size = size) (hby : i.bytes = bytes) (hzs : z.cells.size = size) (hsz : 0 < size) (hz1 : ∀ u ∈ (Builtin.zeroCells z.cells m).toList, u.oneCell' = true)
    (v : Value) (n : Nat) (xs : List Value) (hlax : Lax w e size v n xs) (hn : 0 < n)
    (hm : 0 < m) (h63 : n + m ≤ maxLen) (hbytes : (n + m) * bytes ≤ 140737488355328) :
    ∃ g cap w', (Builtin.append_ #[t, ti] ty #[v, .int .i64 (m : Int)]).run P w = .ok (.slice (some ⟨g, 0, none⟩) (n + m) cap) w' ∧ Lax w' e size (.slice (some ⟨g, 0, none⟩) (n + m) cap) (n + m) (xs ++ (Builtin.zeroCells z.cells m).toList) ∧ w.grownBy w' v.ownBlock ∧
      (v.ownBlock = some g ∨ g = w.heap.size) := by
  subst hsize
  subst hby
  rcases hlax.2 with ⟨rfl, rfl⟩ | ⟨g, cap, cur, rfl, hg, hnc, hcm, hcs, htake⟩
  · omega
  · have hl : (Builtin.zeroCells z.cells m).toList.length = m * i.size := by rw [Array.length_toList, size_zeroCells, hzs]
    have hlen : (xs ++ (Builtin.zeroCells z.cells m).toList).length = (n + m) * i.size := by rw [List.length_append, hlax.1, hl, Nat.add_mul]
    have hml : maxLen ≤ 9223372036854775807 := by unfold maxLen; omega
    have hwr : IntKind.i64.wrap (m : Int) = (m : Int) := IntWalk.i64_in _ (by omega)
    have hm0 : ¬ (m : Int) < 0 := by omega
    have hmb : ¬ (281474976710656 : Int) < (m : Int) * (i.bytes : Int) := by
      have : m * i.bytes ≤ (n + m) * i.bytes := Nat.mul_le_mul_right _ (by omega)
      have h2 : ((m * i.bytes : Nat) : Int) = (m : Int) * (i.bytes : Int) := by push_cast; rfl
      omega
    have hms : ¬ m * i.size = 0 := by have := Nat.mul_pos hm hsz; omega
    by_cases hroom : n + m ≤ cap
    · have hfit : n * i.size + (Builtin.zeroCells z.cells m).toList.length ≤ cur.size := by rw [hl, ← Nat.add_mul]; exact Nat.le_trans (Nat.mul_le_mul_right _ hroom) hcs
      have hst := run_storeCells_at P g (n * i.size) e (Builtin.zeroCells z.cells m).toList 0 cur w hg (by simpa using hfit) hz1
      simp only [Nat.add_zero] at hst
      refine ⟨g, cap, w.setRow g (cur.toList.take (n * i.size) ++ (Builtin.zeroCells z.cells m).toList ++ cur.toList.drop (n * i.size + (Builtin.zeroCells z.cells m).toList.length)).toArray, ?_, ⟨hlen, .inr ⟨g, cap, _, rfl, setRow_heap w g cur _ e _ hg, hroom, hcm, ?_, ?_⟩⟩, ⟨rfl, rfl, rfl, by simp, fun k _ hk => setRow_other w g k _ (fun e => hk (by simp [Value.ownBlock, e]))⟩, .inl rfl⟩
      · have hai : ∀ w, (asInt (.int .i64 (m : Int))).run P w = .ok (m : Int) w := fun w => rfl
        simp [Builtin.append_, run_underlying ht, run_underlying hti, sizeOf, typeInfo, zeroValue, hi, hz, hai, hwr, hm0, hmb, hroom, hms, Addr.add_lit, hst]
      · simp only [List.size_toArray, List.length_append, List.length_take, List.length_drop, Array.length_toList]
        omega
      · rw [htake, ← hlen]
        exact List.take_left
    · have hn2 : ¬ (n + m ≤ cap) := hroom
      have h63' : ¬ (9223372036854775807 < ((n : Int) + (m : Int))) := by omega
      have h48' : ¬ (281474976710656 < Builtin.nextslicecap (n + m) cap * i.bytes) := by have := growslice_fits (need := n + m) (old := cap) (bytes := i.bytes) (by omega) hbytes; omega
      have holds : ∀ j u, xs[j]? = some u → w.cell? ((⟨g, 0, none⟩ : Addr).add j) = some u := fun j u hu => by
        rw [Addr.add_lit, Nat.zero_add]; exact hlax.cell hu
      have hfo := run_firstCells_some (P := P) w.drew i.size n ⟨g, 0, none⟩ n cap xs hlax.1 (by simpa using holds)
      have hai : ∀ w, (asInt (.int .i64 (m : Int))).run P w = .ok (m : Int) w := fun w => rfl
      have hge := grownCap_ge w (n + m) cap e
      have hcm2 : grownCap w (n + m) cap e ≤ maxLen := grownCap_le_maxLen w (n + m) cap e h63
      refine ⟨w.heap.size, grownCap w (n + m) cap e, w.drew.alloc (.cells (xs.toArray ++ Builtin.zeroCells z.cells m ++ Builtin.zeroCells z.cells (grownCap w (n + m) cap e - (n + m))) e), ?_, ⟨hlen, .inr ⟨w.heap.size, _, _, rfl, heap_alloc_new w.drew _, hge, hcm2, ?_, ?_⟩⟩, ⟨rfl, rfl, rfl, by simp, fun k hk _ => (heap_alloc_old w.drew _ hk)⟩, .inr rfl⟩
      · simp [Builtin.append_, run_underlying ht, run_underlying hti, sizeOf, typeInfo, zeroValue, hi, hz, hai, hwr, hm0, hmb, hn2, h63', h48', hms, Question.forced, hfo, newRow, grownCap]
      · simp only [Array.size_append, List.size_toArray, size_zeroCells, hzs, hlax.1, ← Nat.add_mul]
        exact Nat.mul_le_mul_right _ (by omega)
      · simp only [Array.toList_append]
        rw [← hlen]
        exact List.take_left

theorem step_append_zeros {P : Program} {w : World} (m : Nat) {ops : Array Oper} {o : Oper} {a : Act} {K : Act → World → Prop} {Q : Exit → Act → World → Prop} {E : Prop} (hgd : o.guard = none) (s x : Operand) (t ti : TypeId)
    (ho : o.op = .call { callee := .builtin .append, args := #[s, x], argTypes := #[t, ti] })
    (e : TypeId) (z : Value) (size bytes : Nat) (ht : P.underlying t = some (.slice e)) (hti : P.underlying ti = some (.int .i64)) (hinfo : (P.info? e).map (fun i => (i.zero, i.size, i.bytes)) = some (some z, size, bytes))
    (hzs : z.cells.size = size) (hsz : 0 < size) (hz1 : ∀ u ∈ (Builtin.zeroCells z.cells m).toList, u.oneCell' = true)
    (v : Value) (n : Nat) (xs : List Value) (hs : a.eval s = v) (hlax : Lax w e size v n xs) (hn : 0 < n) (hx : a.eval x = .int .i64 (m : Int))
    (hm : 0 < m) (h63 : n + m ≤ maxLen) (hbytes : (n + m) * bytes ≤ 140737488355328)
    (h : ∀ g cap w', Lax w' e size (.slice (some ⟨g, 0, none⟩) (n + m) cap) (n + m) (xs ++ (Builtin.zeroCells z.cells m).toList) → w.grownBy w' v.ownBlock → (v.ownBlock = some g ∨ g = w.heap.size) → K (a.put o.dst (.slice (some ⟨g, 0, none⟩) (n + m) cap)) w') :
    if Region.wanted o (yielded ops a.tmps) = true then Oper.wp P o a w K Q else E := by
  have hw : Region.wanted o (yielded ops a.tmps) = true := by simp [Region.wanted, hgd]
  rw [if_pos hw]
  obtain ⟨i0, hi, hz0, hz1', hz2⟩ := info_parts hinfo
  obtain ⟨g, cap, w', hr, h2, h3, h4⟩ := run_append_zeros (P := P) w m t ti o.type e i0 z size bytes ht hti hi hz0 hz1' hz2 hzs hsz hz1 v n xs hlax hn hm h63 hbytes
  unfold Oper.wp execOp
  simp only [ho, resolve, invoke, builtin, Sem.run_bind, Sem.run_pure, Result.andThen_ok, List.map_toArray, List.map_cons, List.map_nil, hs, hx, hr]
  exact h g cap w' h2 h3 h4
end Go.Proofs.Ytlhbgikgaoeciaa
