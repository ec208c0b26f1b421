/-
  CONTRACTS of pulse's Receive and the document's.
-/
import Derived.Test.YtagkbacgdkbbeaaPulse
import Derived.ScopeJumps
set_option linter.unusedSimpArgs false
set_option linter.unusedVariables false
namespace Go.Proofs.Ytagkbacgdkbbeaa
open Go.RowKit
attribute [local go_sem] Oper.semAt_some

/-- A scope whose gotos all lead forward to one label. -/
theorem wp_scope_forward {P : Program} {a : Act} {w : World} {Q : Exit → Act → World → Prop} {c rest : Code} (l : Nat) (hf : findLabel c l = some rest)
    (h : c.wp P (Exit.jump l (fun a w => rest.wp P (Exit.noGoto Q) a w) Q) a w) : (Code.scope c).wp P Q a w :=
  wp_scope_jumps l (fun a w => rest.wp P (Exit.noGoto Q) a w) (fun _ _ => 0) hf h (fun a w hJ => Code.wp_mono (fun e a w hq => by cases e <;> first | exact hq | exact (hq : False).elim) hJ)
theorem jump_ret {l : Nat} {J : Act → World → Prop} {Q : Exit → Act → World → Prop} {a : Act} {w : World} : Exit.jump l J Q .ret a w = Q .ret a w := rfl

/-- What a frame is to a pulse: its number, is it one, is it wrong; how many more came. -/
def rcR (id o fid : Int) (rem : Bool) (l : List UInt8) : Int × Bool × Bool × Int :=
  if fid = id ∧ rem = false then
    if o = 0 then (if l.length = 0 then (0, true, false, 1) else (0, false, true, 0))
    else if l.length = 1 ∧ 1 ≤ ((l.getD 0 0).toNat : Int) ∧ ((l.getD 0 0).toNat : Int) ≤ o then (((l.getD 0 0).toNat : Int), true, false, 1) else (0, false, true, 0)
  else (0, false, false, 0)

theorem one_of {w : World} {a : Option Addr} {x : UInt8} (h : Bytes w a [x]) : ∃ b off, a = some ⟨b, off, none⟩ ∧ b < w.heap.size ∧ w.cell? ⟨b, off, none⟩ = some (.int .u8 (x.toNat : Int)) := by
  rcases h with h | ⟨b, off, rfl, hc⟩
  · cases h
  · have h0 := hc 0 (by simp)
    exact ⟨b, off, rfl, World.block_lt_of_cell? w _ h0, by simpa using h0⟩

def RcPost (b t : Nat) (id o s : Int) (r : Int × Bool × Bool × Int) (w : World) (e : Ending) (w' : World) : Prop :=
  e = .returned (.tuple #[.int .i64 r.1, .bool r.2.1, .bool r.2.2.1]) ∧ w'.heap[b]? = some (.cells #[.int .i64 id, .int .i64 o, .int .i64 (s + r.2.2.2)] t (0, 0)) ∧ Upd (· = b) w w'

theorem rc_same {b t : Nat} {id o s : Int} {w : World} (X : Obj) (hb : w.heap[b]? = some (.cells #[.int .i64 id, .int .i64 o, .int .i64 s] t (0, 0))) {i v : Bool} {n : Int} :
    RcPost b t id o s (n, i, v, 0) w (.returned (.tuple #[.int .i64 n, .bool i, .bool v])) (w.alloc X) :=
  ⟨rfl, by rw [Int.add_zero]; exact akeep _ hb, (Upd.refl _ w).alloc _⟩
theorem rc_more {b t : Nat} {id o s : Int} {w : World} (X : Obj) (hb : w.heap[b]? = some (.cells #[.int .i64 id, .int .i64 o, .int .i64 s] t (0, 0))) {i v : Bool} {n : Int} :
    RcPost b t id o s (n, i, v, 1) w (.returned (.tuple #[.int .i64 n, .bool i, .bool v])) ((w.setCell ⟨b, 2, none⟩ (.int .i64 (s + 1))).alloc X) :=
  ⟨rfl, akeep _ (hset hb 2 _), ((Upd.refl (· = b) w).setCell (p := ⟨b, 2, none⟩) (fun _ => rfl) _).alloc _⟩

theorem RcPost.drewN {b t : Nat} {id o s : Int} {r : Int × Bool × Bool × Int} {w w' : World} {e : Ending} (h : RcPost b t id o s r w e w') (n : Nat) : RcPost b t id o s r w e (w'.drewN n) := ⟨h.1, h.2.1, h.2.2.drewN n⟩

theorem rc_more2 {b t : Nat} {id o s : Int} {w : World} (X : Obj) (k : Nat) (hb : w.heap[b]? = some (.cells #[.int .i64 id, .int .i64 o, .int .i64 s] t (0, 0))) {i v : Bool} {n : Int} :
    RcPost b t id o s (n, i, v, 1) w (.returned (.tuple #[.int .i64 n, .bool i, .bool v])) (((w.alloc X).drewN k).setCell ⟨b, 2, none⟩ (.int .i64 (s + 1))) :=
  ⟨rfl, hset (w := (w.alloc X).drewN k) (akeep X hb) 2 _, (((Upd.refl (· = b) w).alloc X).drewN k).setCell (p := ⟨b, 2, none⟩) (fun _ => rfl) _⟩

/-- The ways of a frame. -/
theorem rc_ways (id o fid : Int) (rem : Bool) (l : List UInt8) :
    (fid ≠ id ∧ rcR id o fid rem l = (0, false, false, 0)) ∨ (fid = id ∧ rem = true ∧ rcR id o fid rem l = (0, false, false, 0)) ∨
    (fid = id ∧ rem = false ∧ o = 0 ∧ l.length = 0 ∧ rcR id o fid rem l = (0, true, false, 1)) ∨ (fid = id ∧ rem = false ∧ o = 0 ∧ l.length ≠ 0 ∧ rcR id o fid rem l = (0, false, true, 0)) ∨
    (fid = id ∧ rem = false ∧ o ≠ 0 ∧ l.length ≠ 1 ∧ rcR id o fid rem l = (0, false, true, 0)) ∨
    (fid = id ∧ rem = false ∧ o ≠ 0 ∧ ∃ x : UInt8, l = [x] ∧ (x.toNat : Int) < 1 ∧ rcR id o fid rem l = (0, false, true, 0)) ∨
    (fid = id ∧ rem = false ∧ o ≠ 0 ∧ ∃ x : UInt8, l = [x] ∧ 1 ≤ (x.toNat : Int) ∧ o < (x.toNat : Int) ∧ rcR id o fid rem l = (0, false, true, 0)) ∨
    (fid = id ∧ rem = false ∧ o ≠ 0 ∧ ∃ x : UInt8, l = [x] ∧ 1 ≤ (x.toNat : Int) ∧ (x.toNat : Int) ≤ o ∧ rcR id o fid rem l = ((x.toNat : Int), true, false, 1)) := by
  unfold rcR
  by_cases c1 : fid = id
  · cases rem
    · rw [if_pos ⟨c1, rfl⟩]
      by_cases c2 : o = 0
      · rw [if_pos c2]
        by_cases c3 : l.length = 0
        · exact .inr (.inr (.inl ⟨c1, rfl, c2, c3, if_pos c3⟩))
        · exact .inr (.inr (.inr (.inl ⟨c1, rfl, c2, c3, if_neg c3⟩)))
      · rw [if_neg c2]
        by_cases c3 : l.length = 1
        · obtain ⟨x, rfl⟩ : ∃ x, l = [x] := by
            match l, c3 with
            | [x], _ => exact ⟨x, rfl⟩
          by_cases c4 : (x.toNat : Int) < 1
          · exact .inr (.inr (.inr (.inr (.inr (.inl ⟨c1, rfl, c2, x, rfl, c4, if_neg (fun k => by have := k.2.1; simp at this c4; omega)⟩)))))
          · by_cases c5 : o < (x.toNat : Int)
            · exact .inr (.inr (.inr (.inr (.inr (.inr (.inl ⟨c1, rfl, c2, x, rfl, by omega, c5, if_neg (fun k => by have := k.2.2; simp at this c5; omega)⟩))))))
            · refine .inr (.inr (.inr (.inr (.inr (.inr (.inr ⟨c1, rfl, c2, x, rfl, by omega, by omega, if_pos ⟨rfl, ?_, ?_⟩⟩))))))
              · simp; omega
              · simp; omega
        · exact .inr (.inr (.inr (.inr (.inl ⟨c1, rfl, c2, c3, if_neg (fun k => c3 k.1)⟩))))
    · exact .inr (.inl ⟨c1, rfl, if_neg (fun k => by cases k.2)⟩)
  · exact .inl ⟨c1, if_neg (fun k => c1 k.1)⟩

set_option maxRecDepth 100000 in
set_option maxHeartbeats 2000000 in
theorem recv_any (b : Nat) (id o s fid : Int) (rem : Bool) (l : List UInt8) (a : Option Addr) (cap : Nat) (w : World) (hb : w.heap[b]? = some (.cells #[.int .i64 id, .int .i64 o, .int .i64 s] 46 (0, 0)))
    (hid : id ≠ 0) (ho : 0 ≤ o) (hs0 : 0 ≤ s) (hs : s ≤ 100000) (hl : (l.length : Int) ≤ 100000) (hB : Bytes w a l) :
    Calls Try.prog 17 #[.pointer (some ⟨b, 0, none⟩), .agg #[.int .i64 fid, .bool rem, .slice a l.length cap]] w (RcPost b 46 id o s (rcR id o fid rem l) w) := by
  have hid' : (id == 0) = false := by rw [beq_eq_false_iff_ne]; exact hid
  obtain ⟨p0, p1, p2⟩ := cells3' hb
  have f2 := free_of hb 2
  have hlt := lt_of_block hb
  have HB := Lib.hid hb
  clear hb hid
  rcases rc_ways id o fid rem l with ⟨h, e⟩ | ⟨rfl, rfl, e⟩ | ⟨rfl, rfl, rfl, h, e⟩ | ⟨rfl, rfl, rfl, h, e⟩ | ⟨rfl, rfl, h, h2, e⟩ | ⟨rfl, rfl, h, x, rfl, h2, e⟩ | ⟨rfl, rfl, h, x, rfl, h2, h3, e⟩ | ⟨rfl, rfl, h, x, rfl, h2, h3, e⟩
  · rw [e]
    have hne : (fid != id) = true := by rw [bne_iff_ne]; exact h
    clear h hB e
    generalize l.length = n at *
    go_enter Try.func17, Try.ntmps17
    go_wp2_with fail
    go_step3
    go_wp2_with fail
    go_quiet (fail)
    go_wp2_with fail
    rw [Exit.noGoto_ret]
    go_ret3
    exact (rc_same _ HB.out).drewN _
  · rw [e]
    clear hB e
    generalize l.length = n at *
    go_enter Try.func17, Try.ntmps17
    go_wp2_with fail
    go_step3
    go_wp2_with fail
    go_quiet (fail)
    go_wp2_with fail
    rw [Exit.noGoto_ret]
    go_ret3
    exact (rc_same _ HB.out).drewN _
  · rw [e]
    clear hB e
    rw [h]
    clear h
    go_enter Try.func17, Try.ntmps17
    go_wp2_with fail
    go_step3
    go_wp2_with fail
    go_quiet (fail)
    go_wp2_with fail
    rw [Exit.noGoto_ret]
    go_ret3
    exact rc_more2 _ _ HB.out
  · rw [e]
    clear hB e
    have h0 : (0 : Int) < (l.length : Int) := by omega
    generalize l.length = n at *
    clear h
    go_enter Try.func17, Try.ntmps17
    go_wp2_with fail
    refine wp_scope_forward 0 rfl ?_
    go_wp2_with fail
    go_quiet (fail)
    go_wp2_with fail
    go_step3
    refine ⟨rfl, ?_⟩
    go_wp2_with fail
    rw [Exit.noGoto_ret]
    go_ret3
    exact (rc_same _ HB.out).drewN _
  · rw [e]
    clear hB e
    have h0 : (o == 0) = false := by rw [beq_eq_false_iff_ne]; exact h
    have h1 : ((l.length : Int) != 1) = true := by rw [bne_iff_ne]; omega
    generalize l.length = n at *
    clear h h2
    go_enter Try.func17, Try.ntmps17
    go_wp2_with fail
    refine wp_scope_forward 0 rfl ?_
    go_wp2_with fail
    go_quiet (fail)
    go_wp2_with fail
    go_step3
    refine ⟨rfl, ?_⟩
    go_wp2_with fail
    rw [Exit.noGoto_ret]
    go_ret3
    exact (rc_same _ HB.out).drewN _
  · rw [e]
    obtain ⟨db, off, rfl, hdl, hx⟩ := one_of hB
    have h0 : (o == 0) = false := by rw [beq_eq_false_iff_ne]; exact h
    have h1 : decide ((x.toNat : Int) < 1) = true := decide_eq_true h2
    have hxl := x.toNat_lt
    clear hB e h
    generalize x.toNat = X at *
    go_enter Try.func17, Try.ntmps17
    go_wp2_with fail
    refine wp_scope_forward 0 rfl ?_
    go_wp2_with fail
    go_quiet (fail)
    go_wp2_with fail
    go_step3
    refine ⟨rfl, ?_⟩
    go_wp2_with fail
    rw [Exit.noGoto_ret]
    go_ret3
    exact (rc_same _ HB.out).drewN _
  · rw [e]
    obtain ⟨db, off, rfl, hdl, hx⟩ := one_of hB
    have h0 : (o == 0) = false := by rw [beq_eq_false_iff_ne]; exact h
    have h1 : decide ((x.toNat : Int) < 1) = false := by rw [decide_eq_false_iff_not]; omega
    have h4 : decide (o < (x.toNat : Int)) = true := decide_eq_true h3
    have hxl := x.toNat_lt
    clear hB e h
    generalize x.toNat = X at *
    go_enter Try.func17, Try.ntmps17
    go_wp2_with fail
    refine wp_scope_forward 0 rfl ?_
    go_wp2_with fail
    go_quiet (fail)
    go_wp2_with fail
    go_step3
    refine ⟨rfl, ?_⟩
    go_wp2_with fail
    rw [Exit.noGoto_ret]
    go_ret3
    exact (rc_same _ HB.out).drewN _
  · rw [e]
    obtain ⟨db, off, rfl, hdl, hx⟩ := one_of hB
    have h0 : (o == 0) = false := by rw [beq_eq_false_iff_ne]; exact h
    have h1 : decide ((x.toNat : Int) < 1) = false := by rw [decide_eq_false_iff_not]; omega
    have h4 : decide (o < (x.toNat : Int)) = false := by rw [decide_eq_false_iff_not]; omega
    have hxl := x.toNat_lt
    clear hB e h
    generalize x.toNat = X at *
    go_enter Try.func17, Try.ntmps17
    go_wp2_with fail
    go_step3
    go_wp2_with fail
    go_quiet (fail)
    go_wp2_with fail
    rw [Exit.noGoto_ret]
    go_ret3
    exact rc_more2 _ _ HB.out
end Go.Proofs.Ytagkbacgdkbbeaa
