/-
  CONTRACTS of emcy's New, Register, Active, Wipe, History, and of octet's Put.
-/
import Derived.Test.YtlhbgikgaoeciaaEmcA
set_option linter.unusedSimpArgs false
set_option linter.unusedVariables false
namespace Go.Proofs.Ytlhbgikgaoeciaa
open Go.RowKit
attribute [local go_sem] Oper.semAt_some

theorem new_ok (n : Int) (w : World) (h : 1 ≤ n ∧ n ≤ 127) : Calls Try.prog 7 #[.int .i64 n] w fun e w' => ∃ B, e = .returned (.tuple #[.pointer (some ⟨B, 0, none⟩), .int .i64 0]) ∧ w.heap.size ≤ B ∧ Emc w' B (128 + n) (.slice none 0 0) (.slice none 0 0) [] [] ∧ Below w.heap.size w w' := by
  have hk : okN 4 0 n := by unfold okN; omega
  have hi : idN 4 0 n = 128 + n := by rw [(idN_yes hk).1]; rw [bN.2.2.2.1]; omega
  have he : idE 4 0 n = 0 := (idN_yes hk).2
  have HI := Lib.hid (id_any 4 0 n w)
  rw [hi, he] at HI
  clear hi he hk
  go_enter Try.func7, Try.ntmps7
  go_wp2_with fail
  refine HI.out.mono ?_
  rintro e w1 ⟨rfl, hb1⟩
  have HB := Lib.hid hb1
  have s1 := hb1.size
  clear hb1
  go_wp2_with fail
  go_ret2
  exact ⟨_, rfl, s1, ⟨heap_alloc_new _ _, ⟨rfl, .inl ⟨rfl, rfl⟩⟩, ⟨rfl, .inl ⟨rfl, rfl⟩⟩⟩, HB.out.alloc s1 _⟩

theorem new_no (n : Int) (w : World) (h : ¬ (1 ≤ n ∧ n ≤ 127)) : Calls Try.prog 7 #[.int .i64 n] w fun e w' => e = .returned (.tuple #[.pointer none, .int .i64 1]) ∧ Below w.heap.size w w' := by
  have hk : ¬ okN 4 0 n := by unfold okN; omega
  have he : idE 4 0 n = 1 := by unfold idE; exact if_neg hk
  have HI := Lib.hid (id_any 4 0 n w)
  rw [he] at HI
  clear he hk
  generalize idN 4 0 n = x at *
  go_enter Try.func7, Try.ntmps7
  go_wp2_with fail
  refine HI.out.mono ?_
  rintro e w1 ⟨rfl, hb1⟩
  have HB := Lib.hid hb1
  clear hb1
  go_wp2_with fail
  go_ret2
  exact ⟨rfl, HB.out⟩

/-- The register of errors. -/
def regC (fs : List (Int × Int)) : Int := fs.foldl (fun n x => bits .or .i64 n (bitC x.1)) 0
theorem regC_take (fs : List (Int × Int)) (k : Nat) (x : Int × Int) (h : fs[k]? = some x) : regC (fs.take (k + 1)) = bits .or .i64 (regC (fs.take k)) (bitC x.1) := by
  obtain ⟨hk, rfl⟩ := List.getElem?_eq_some_iff.1 h
  unfold regC
  rw [List.take_succ_eq_append_getElem hk, List.foldl_append]
  rfl

set_option maxRecDepth 100000 in
set_option maxHeartbeats 2000000 in
theorem register_any (b : Nat) (id : Int) (av hv : Value) (fs : List (Int × Int)) (hs : List Int) (w : World) (h : Emc w b id av hv fs hs) :
    Calls Try.prog 10 #[.pointer (some ⟨b, 0, none⟩)] w fun e w' => e = .returned (.int .i64 (regC fs)) ∧ Below w.heap.size w w' := by
  obtain ⟨aa, ac, rfl, _, hac, hcm⟩ := h.2.1.shape
  have hml : maxLen ≤ 9223372036854775807 := by unfold maxLen; omega
  obtain ⟨c0, c1, c2⟩ := cells3' h.1
  have hbl := h.lt
  have HE := Lib.hid h
  clear h
  go_enter Try.func10, Try.ntmps10
  go_wp2_with fail
  go_loopg [3, 13] fs.length (fun gg v i wr => ∃ k : Nat, k ≤ fs.length ∧ gg = fs.length - k ∧ i = .int .i64 k ∧ v = .int .i64 (regC (fs.take k)) ∧ Below w.heap.size w wr)
  case atStart => exact ⟨0, by omega, by omega, rfl, rfl, Below.refl _ _⟩
  case round =>
    obtain ⟨k, hk, hgk, rfl, rfl, hB⟩ := hrel
    have HG := Lib.hid hgk
    have HB := Lib.hid hB
    have hws := hB.size
    have hEr := HE.out.below hB
    have HEr := Lib.hid hEr
    clear hgk hB hEr c0 c1 c2
    by_cases hkn : k < fs.length
    · have d1 : (k : Int) < (fs.length : Int) := by omega
      obtain ⟨g, rfl⟩ := HEr.out.2.1.at0 (by omega)
      obtain ⟨p, hp⟩ : ∃ p, fs[k]? = some p := ⟨_, List.getElem?_eq_getElem hkn⟩
      obtain ⟨f1, f2⟩ := fvals_get fs k p hp
      have q1 := HEr.out.2.1.cell f1
      have q2 := HEr.out.2.1.cell f2
      have hgl := (HEr.out.2.1.lt g rfl).1
      have HP := Lib.hid hp
      have HR := Lib.hid (regC_take fs k p hp)
      obtain ⟨p1, p2⟩ := p
      simp only at q1 q2
      clear hp f1 f2
      generalize regC (fs.take k) = n at *
      go_wp2_with fail
      refine (bit_any p1 _).mono ?_
      rintro e w2 ⟨rfl, rfl⟩
      go_wp2_with fail
      go_roundg (fs.length - (k + 1))
      case measure => have := HG.out; omega
      case rel => exact ⟨k + 1, by omega, rfl, by go_num, congrArg (Value.int .i64) HR.out.symm, HB.out.alloc hws _⟩
    · obtain rfl : k = fs.length := by omega
      rw [List.take_length]
      go_wp2_with fail
      go_ret
      exact ⟨rfl, HB.out⟩

theorem register_nil (w : World) : Calls Try.prog 10 #[.pointer none] w fun e w' => e = .returned (.int .i64 0) ∧ w = w' := by
  go_enter Try.func10, Try.ntmps10
  go_wp2_with fail
  go_ret
  exact ⟨rfl, rfl⟩

theorem active_any (b : Nat) (id : Int) (av hv : Value) (fs : List (Int × Int)) (hs : List Int) (w : World) (h : Emc w b id av hv fs hs) :
    Calls Try.prog 11 #[.pointer (some ⟨b, 0, none⟩)] w fun e w' => e = .returned (.int .i64 (fs.length : Nat)) ∧ w = w' := by
  obtain ⟨aa, ac, rfl, _, hac, hcm⟩ := h.2.1.shape
  obtain ⟨c0, c1, c2⟩ := cells3' h.1
  clear h
  go_enter Try.func11, Try.ntmps11
  go_wp2_with fail
  go_ret
  exact ⟨rfl, rfl⟩
theorem active_nil (w : World) : Calls Try.prog 11 #[.pointer none] w fun e w' => e = .returned (.int .i64 0) ∧ w = w' := by
  go_enter Try.func11, Try.ntmps11
  go_wp2_with fail
  go_ret
  exact ⟨rfl, rfl⟩

theorem wipe_any (b : Nat) (id : Int) (av hv : Value) (fs : List (Int × Int)) (hs : List Int) (w : World) (h : Emc w b id av hv fs hs) :
    Calls Try.prog 17 #[.pointer (some ⟨b, 0, none⟩)] w fun e w' => e = .returned (.tuple #[]) ∧ Emc w' b id av (.slice none 0 0) fs [] ∧ Upd (· = b) w w' := by
  obtain ⟨c0, c1, c2⟩ := cells3' h.1
  have f2 := free_of h.1 2
  have HU := Lib.hid ((Upd.refl (· = b) w).setCell (p := ⟨b, 2, none⟩) (fun _ => rfl) (.slice none 0 0))
  have hne : ∀ g, av.ownBlock = some g → ¬ g = b := fun g hg e => by
    subst e
    obtain ⟨_, cur, hc⟩ := h.2.1.lt g hg
    rw [h.1] at hc
    injection hc with hc
    injection hc with _ h2
    cases h2
  have HH : Hid (Emc (w.setCell ⟨b, 2, none⟩ (.slice none 0 0)) b id av (.slice none 0 0) fs []) := ⟨hset h.1 2 _, h.2.1.upd HU.out hne, ⟨rfl, .inl ⟨rfl, rfl⟩⟩⟩
  clear h hne
  go_enter Try.func17, Try.ntmps17
  go_wp2_with fail
  go_end0
  exact ⟨rfl, HH.out, HU.out⟩
theorem wipe_nil (w : World) : Calls Try.prog 17 #[.pointer none] w fun e w' => e = .returned (.tuple #[]) ∧ w = w' := by
  go_enter Try.func17, Try.ntmps17
  go_wp2_with fail
  go_end0
  exact ⟨rfl, rfl⟩

theorem info45 : (Try.prog.info? 45).map (fun i => (i.zero, i.size, i.bytes)) = some (some (.int .u32 0), 1, 4) := by kernel_rfl
set_option maxRecDepth 100000 in
set_option maxHeartbeats 1000000 in
theorem history_any (b : Nat) (id : Int) (av hv : Value) (fs : List (Int × Int)) (hs : List Int) (w : World) (h : Emc w b id av hv fs hs) (hh : hs.length ≤ 1000000) :
    Calls Try.prog 12 #[.pointer (some ⟨b, 0, none⟩)] w fun e w' => ∃ v, e = .returned v ∧ w'.ownsRow w.heap.size 45 1 v hs.length (uv hs) ∧ Below w.heap.size w w' := by
  obtain ⟨ha, hc, rfl, hnil, hac, hcm⟩ := h.2.2.shape
  obtain ⟨c0, c1, c2⟩ := cells3' h.1
  have HE := Lib.hid h
  have hul : (uv hs).length = hs.length * 1 := by simp [uv]
  have hu1 : ∀ u ∈ uv hs, u.oneCell' = true := fun u hu => by simp [uv] at hu; obtain ⟨z, _, rfl⟩ := hu; rfl
  have HN := Lib.hid (And.intro hnil (And.intro hul hu1))
  clear h hnil hul hu1
  go_enter Try.func12, Try.ntmps12
  go_wp2_with (at_builtin; refine wpList_append_any rfl (.const (.slice none 0 0)) (.tmp 8) 32 rfl w.heap.size 45 (.int .u32 0) 1 4 Try.underlying32 info45 rfl (by decide) (.slice none 0 0) 0 [] rfl (World.ownsRow_nil _ w.heap.size 45 1) ha hs.length hc (uv hs) rfl HN.out.1 HN.out.2.1 HE.out.2.2.news HN.out.2.2 ?c3 ?c4 ?c5 ?_)
  case c3 => unfold maxLen; omega
  case c4 => omega
  case c5 => exact Nat.le_refl _
  intro v' w1 hown hg
  have HO := Lib.hid hown
  have HU := Lib.hid ((Upd.refl (fun _ => False) w).grown hg (fun k e => by cases e))
  clear hown hg
  go_wp2_with fail
  go_ret
  refine ⟨v', rfl, ?_, HU.out.toBelow (Nat.le_refl _) (fun _ _ h => h)⟩
  simpa using HO.out
theorem history_nil (w : World) : Calls Try.prog 12 #[.pointer none] w fun e w' => e = .returned (.slice none 0 0) ∧ w = w' := by
  go_enter Try.func12, Try.ntmps12
  go_wp2_with fail
  go_ret
  exact ⟨rfl, rfl⟩
end Go.Proofs.Ytlhbgikgaoeciaa
