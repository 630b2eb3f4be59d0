/-
  Proved: the call of jotterlaw16.SystemBounds returns true for every three ints. Conditions: none.
  The frame of this text was written by proof-skeleton.mjs.
-/
import Derived.Test.YtcekdbmdpfjapaaRows
import Derived.WalkKit
import Derived.ProofKit
import Derived.OpenShut
import Derived.Lib.Hide
namespace Go.Proofs.Ytcekdbmdpfjapaa.systemBounds
open Go.ChangeShapes Go.WideShapes Go.ChangeAt Go.RowKit
set_option linter.unusedVariables false      -- a walk need not use every 'w<i>' (that an integer argument fits its kind)

theorem own : ownKnob Try.prog.godebug = none := by kernel_rfl


/-- The number of rounds, as both texts answer it. -/
def rounds (b l p : Int) : Int := b * (8 + 2 * ((p + 7) / 8) + 2 * ((l + p + 7) / 8))

/-- A question that is refused. -/
def Bad (b l p : Int) : Prop := b < 1 ∨ 1000 < b ∨ l < 0 ∨ 4096 < l ∨ p < 0 ∨ 4096 < p

theorem ret2 {a b c d : Int} (h : a = b) (g : c = d) : Ending.returned (.tuple #[.int .i64 a, .int .i64 c]) = .returned (.tuple #[.int .i64 b, .int .i64 d]) := by rw [h, g]
theorem ret1 {a b : Int} (h : a = b) : Ending.returned (.int .i64 a) = .returned (.int .i64 b) := by rw [h]

theorem up_any (n : Int) (w : World) (h0 : 0 ≤ n) (h1 : n ≤ 8192) : Calls Try.prog 7 #[.int .i64 n] w fun e w' => e = .returned (.int .i64 ((n + 7) / 8)) ∧ w = w' := by
  go_enter Try.func7, Try.ntmps7
  go_wp2
  go_ret
  exact ⟨ret1 (by omega), rfl⟩

theorem rounds_le (b l p : Int) (h0 : 1 ≤ b) (h1 : b ≤ 1000) (h2 : 0 ≤ l) (h3 : l ≤ 4096) (h4 : 0 ≤ p) (h5 : p ≤ 4096) : 0 ≤ rounds b l p ∧ rounds b l p ≤ 10000000 := by
  unfold rounds
  have a1 : 0 ≤ 8 + 2 * ((p + 7) / 8) + 2 * ((l + p + 7) / 8) := by omega
  have a2 : 8 + 2 * ((p + 7) / 8) + 2 * ((l + p + 7) / 8) ≤ 10000 := by omega
  refine ⟨Int.mul_nonneg (by omega) a1, ?_⟩
  calc b * (8 + 2 * ((p + 7) / 8) + 2 * ((l + p + 7) / 8)) ≤ 1000 * 10000 := Int.mul_le_mul h1 a2 a1 (by omega)
    _ = 10000000 := by omega

theorem wrap_rounds (b l p : Int) (h : 0 ≤ rounds b l p ∧ rounds b l p ≤ 10000000) : wrap64 (b * (8 + 2 * ((p + 7) / 8) + 2 * ((l + p + 7) / 8))) = rounds b l p := by
  unfold rounds at *
  generalize b * (8 + 2 * ((p + 7) / 8) + 2 * ((l + p + 7) / 8)) = x at *
  unfold wrap64
  omega

theorem bound_ok (b l p : Int) (w : World) (h0 : 1 ≤ b) (h1 : b ≤ 1000) (h2 : 0 ≤ l) (h3 : l ≤ 4096) (h4 : 0 ≤ p) (h5 : p ≤ 4096) :
    Calls Try.prog 5 #[.int .i64 b, .int .i64 l, .int .i64 p] w fun e w' => e = .returned (.tuple #[.int .i64 (rounds b l p), .int .i64 0]) ∧ w = w' := by
  have Hm := Lib.hid (wrap_rounds b l p (rounds_le b l p h0 h1 h2 h3 h4 h5))
  go_enter Try.func5, Try.ntmps5
  go_wp2_with (first | (go_at_call 7; refine (up_any _ _ (by omega) (by omega)).mono ?_; rintro e w' ⟨rfl, rfl⟩))
  go_ret2
  exact ⟨ret2 Hm.out rfl, rfl⟩

theorem bound_bad (b l p : Int) (w : World) (h : Bad b l p) :
    Calls Try.prog 5 #[.int .i64 b, .int .i64 l, .int .i64 p] w fun e w' => e = .returned (.tuple #[.int .i64 0, .int .i64 163]) ∧ w = w' := by
  unfold Bad at h
  go_enter Try.func5, Try.ntmps5
  go_wp2
  all_goals first
    | omega
    | (go_ret2; exact ⟨rfl, rfl⟩)

theorem ref_bad (b l p : Int) (w : World) (h : Bad b l p) :
    Calls Try.prog 6 #[.int .i64 b, .int .i64 l, .int .i64 p] w fun e w' => e = .returned (.tuple #[.int .i64 0, .int .i64 163]) ∧ w = w' := by
  unfold Bad at h
  go_enter Try.func6, Try.ntmps6
  go_wp2
  all_goals first
    | omega
    | (go_ret2; exact ⟨rfl, rfl⟩)

theorem ref_ok (b l p : Int) (w : World) (h0 : 1 ≤ b) (h1 : b ≤ 1000) (h2 : 0 ≤ l) (h3 : l ≤ 4096) (h4 : 0 ≤ p) (h5 : p ≤ 4096) :
    Calls Try.prog 6 #[.int .i64 b, .int .i64 l, .int .i64 p] w fun e w' => e = .returned (.tuple #[.int .i64 (rounds b l p), .int .i64 0]) ∧ w = w' := by
  have Hm := Lib.hid (wrap_rounds b l p (rounds_le b l p h0 h1 h2 h3 h4 h5))
  go_enter Try.func6, Try.ntmps6
  go_wp2
  go_loop [8, 9] (fun n i => ∃ k : Int, ∃ m : Int, n = .int .i64 m ∧ i = .int .i64 k ∧ -8 < k ∧ k ≤ p ∧ 8 ≤ m ∧ m = 8 + 2 * ((p + 7) / 8) - 2 * ((k + 7) / 8)) (fun _ i => (intOf i).toNat)
  case atStart => exact ⟨p, 8, rfl, rfl, by omega, by omega, by omega, by omega⟩
  case round =>
    obtain ⟨k, m, rfl, rfl, hk0, hk1, hm0, hm⟩ := hrel
    have HM := Lib.hid hm
    have hm1 : m ≤ 2000 := by omega
    clear hm
    by_cases hk : 0 < k
    · go_wp2
      go_round
      case rel => exact ⟨k - 8, m + 2, rfl, rfl, by omega, by omega, by omega, by have := HM.out; omega⟩
      case measure => simp [intOf]; omega
    · go_wp2
      go_loop [8, 10] (fun n i => ∃ k1 : Int, ∃ m1 : Int, n = .int .i64 m1 ∧ i = .int .i64 k1 ∧ -8 < k1 ∧ k1 ≤ l + p ∧ 8 ≤ m1 ∧ m1 = m + 2 * ((l + p + 7) / 8) - 2 * ((k1 + 7) / 8)) (fun _ i => (intOf i).toNat)
      case atStart => exact ⟨l + p, m, rfl, rfl, by omega, by omega, by omega, by omega⟩
      case round =>
        obtain ⟨k1, m1, rfl, rfl, hk2, hk3, hm2, hm⟩ := hrel
        have HM1 := Lib.hid hm
        have hm3 : m1 ≤ 5000 := by omega
        clear hm
        by_cases hj : 0 < k1
        · go_wp2
          go_round
          case rel => exact ⟨k1 - 8, m1 + 2, rfl, rfl, by omega, by omega, by omega, by have := HM1.out; omega⟩
          case measure => simp [intOf]; omega
        · have hmm : m1 = 8 + 2 * ((p + 7) / 8) + 2 * ((l + p + 7) / 8) := by have := HM.out; have := HM1.out; omega
          have HMM := Lib.hid hmm
          clear hmm
          go_wp2
          go_ret2
          exact ⟨ret2 (by rw [HMM.out]; exact Hm.out) rfl, rfl⟩

theorem walk (a0 : Int) (a1 : Int) (a2 : Int) (w0 : (Lit.int .i64 a0).wf = true) (w1 : (Lit.int .i64 a1).wf = true) (w2 : (Lit.int .i64 a2).wf = true) (w : World) :
    Calls Try.prog 4 #[.int .i64 a0, .int .i64 a1, .int .i64 a2] w fun e w' => e = .returned (.bool true) ∧ Grown w w' := by
  clear w0 w1 w2
  by_cases h : Bad a0 a1 a2
  · go_enter Try.func4, Try.ntmps4
    go_wp2_with (first
      | (go_at_call 5; refine (bound_bad _ _ _ _ h).mono ?_; rintro e w' ⟨rfl, rfl⟩)
      | (go_at_call 6; refine (ref_bad _ _ _ _ h).mono ?_; rintro e w' ⟨rfl, rfl⟩))
    go_ret
    exact ⟨rfl, Grown.refl _⟩
  · have H := Lib.hid h
    unfold Bad at h
    have b0 : 1 ≤ a0 := by omega
    have b1 : a0 ≤ 1000 := by omega
    have b2 : 0 ≤ a1 := by omega
    have b3 : a1 ≤ 4096 := by omega
    have b4 : 0 ≤ a2 := by omega
    have b5 : a2 ≤ 4096 := by omega
    clear h
    go_enter Try.func4, Try.ntmps4
    go_wp2_with (first
      | (go_at_call 5; refine (bound_ok _ _ _ _ b0 b1 b2 b3 b4 b5).mono ?_; rintro e w' ⟨rfl, rfl⟩)
      | (go_at_call 6; refine (ref_ok _ _ _ _ b0 b1 b2 b3 b4 b5).mono ?_; rintro e w' ⟨rfl, rfl⟩))
    go_ret
    exact ⟨rfl, Grown.refl _⟩

/-! ### THE ROW's STEP: WRITTEN OUT: LEAVE IT -/
set_option maxRecDepth 100000 in
theorem lifted (os : Os) (started : os.Started) (H : Type) (enc : TypeId × Value → H) :
    ReturnsInHanded {} Try.checked os 4 .any (Rows.systemBoundsSpec.pre6 enc Try.prog Try.f4 Rows.systemBoundsRow.domain false) (Rows.systemBoundsSpec.post enc Try.prog Try.f4 false true false false) := by
  refine returnsInHanded_of_change (C := Try.checked) own started (by kernel_rfl) Try.func4
    (ChangeSpec.witness6 (enc := enc) (C := Try.checked) false ⟨#[], #[.int .i64 0, .int .i64 0, .int .i64 0], []⟩ 8 (by kernel_rfl) (by kernel_rfl) (by kernel_rfl) (by kernel_rfl)) ?_
  intro W base args ds gs before hval0 hW hcnd _
  have hval : ∀ (j : Nat) t v, Try.f4.params[j]? = some t → args[j]? = some v → Value.okWide Try.prog W .any base t v := hval0
  have hW' := hW
  obtain ⟨p, q, hA0, hV, rfl, hfz, hnd⟩ := hW
  have hA : DataW.TrodAll enc Try.prog W 0 (fun _ => true) true Try.f4.params.toList args.toList ds p := hA0
  rw [Try.params4] at hA hval
  obtain ⟨v0, vs0, d0, ds0, p0, q0, hargs, rfl, rfl, h0, r0⟩ := trodAll_cons hA
  obtain ⟨v1, vs1, d1, ds1, p1, q1, rfl, rfl, rfl, h1, r1⟩ := trodAll_cons r0
  obtain ⟨v2, vs2, d2, ds2, p2, q2, rfl, rfl, rfl, h2, r2⟩ := trodAll_cons r1
  obtain ⟨rfl, rfl, rfl⟩ := trodAll_nil r2
  obtain rfl : args = #[v0, v1, v2] := by cases args; simp_all
  obtain ⟨rfl, rfl⟩ := trodVars_none hV
  obtain ⟨a0, rfl, rfl, rfl, w0⟩ := open_int Try.underlying3 (hval 0 3 v0 rfl rfl) h0
  obtain ⟨a1, rfl, rfl, rfl, w1⟩ := open_int Try.underlying3 (hval 1 3 v1 rfl rfl) h1
  obtain ⟨a2, rfl, rfl, rfl, w2⟩ := open_int Try.underlying3 (hval 2 3 v2 rfl rfl) h2
  clear hA0 hval0
  simp only [List.append_nil] at hW'
  refine (walk a0 a1 a2 w0 w1 w2 W).mono fun e W' ⟨he, hg⟩ => ?_
  subst he
  exact ⟨_, rfl, post_of_same (pa := []) (pv := []) hW' (fun _ _ _ => (trodAll_cons_mk (shut_bool Try.underlying4 _) trodAll_mk0)) (fun sp _ => (trodAll_cons_mk (shut_int Try.underlying3 w0) (trodAll_cons_mk (shut_int Try.underlying3 w1) (trodAll_cons_mk (shut_int Try.underlying3 w2) trodAll_mk0)))) (fun _ _ => rfl) rfl
    (hg.frame _) hg.2.1 (ok_one (by kernel_rfl) rfl (okWide_bool_mk Try.underlying4 _))⟩

theorem over : Rows.systemBoundsRow.holds Try.pinned (OpenSpec.ofChange Rows.systemBoundsSpec) :=
  OpenClaim.holds_of_wide 4 Try.f4 rfl rfl rfl rfl rfl rfl rfl ⟨rfl, rfl, rfl, rfl, rfl⟩ rfl rfl rfl rfl rfl (by kernel_rfl) Try.func4 (by kernel_rfl)
    (of_decide_eq_true (by kernel_rfl)) (by unfold Func.isWrapper; first | (rw [if_pos (by decide +kernel)]; kernel_rfl) | (rw [if_neg (by decide +kernel)]; exact ⟨rfl, rfl⟩))
    (fun os started H enc _ => lifted os started H enc)

/-- ████ THE STATEMENT ████ -/
theorem proved : Rows.SystemBoundsSaid :=
  over
#print axioms proved
end Go.Proofs.Ytcekdbmdpfjapaa.systemBounds
