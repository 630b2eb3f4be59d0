/-
  Contracts of package octet, more: the sum taken off, and the reader.
-/
import Derived.Test.YtodkhoclbhdihaaDoorOctet
import Derived.Test.YtodkhoclbhdihaaDoorApl
import Derived.BigQuiet
import Derived.Deep.QuietTactic
namespace Go.Proofs.YtodkhoclbhdihaaDoor
open Go.RowKit

theorem open_short (A : Option Addr) (n c : Nat) (w : World) (hn : n < 4) :
    Calls Tryd.prog 62 #[.slice A n c] w fun e w' => ∃ g, e = .returned (.tuple #[.slice none 0 0, errV g]) ∧ Fault w' g n 10 ∧ Fr None' w w' := by
  have Hw := Lib.hid (wrap_any n 10 w)
  go_enter Tryd.func62, Tryd.ntmps62
  go_wp2_with (go_at_call 22; refine Hw.out.mono ?_; rintro e w' ⟨rfl, hF, rfl⟩)
  go_ret2
  exact ⟨_, rfl, hF, (Fr.refl _ _).alloc _⟩

theorem sum4_at (s i : Nat) (hi : i < 4) : (sum4 s)[i]? = some (lo8 (s / 2 ^ (8 * i))) := by
  obtain rfl | rfl | rfl | rfl : i = 0 ∨ i = 1 ∨ i = 2 ∨ i = 3 := by omega
  all_goals simp [sum4]

theorem ne_lo8_t (u : UInt8) (m : Nat) (M : Int) (hM : M = m) (h : u ≠ lo8 m) : ((u.toNat : Int) != M % 256) = true := by
  subst hM
  rw [bne_iff_ne]
  intro e
  exact h (UInt8.toNat_inj.1 (by rw [lo8_nat]; omega))
theorem ne_lo8_f (u : UInt8) (m : Nat) (M : Int) (hM : M = m) (h : u = lo8 m) : ((u.toNat : Int) != M % 256) = false := by
  subst hM h
  rw [lo8_nat]
  simp
theorem pre_snoc {α : Type} {D S : List α} {j : Nat} {u : α} (h : D.take j = S.take j) (h1 : D[j]? = some u) (h2 : S[j]? = some u) : D.take (j + 1) = S.take (j + 1) := by
  rw [List.take_add_one, List.take_add_one, h, h1, h2]
theorem pre_ne {α : Type} {D S : List α} {j : Nat} {u v : α} (h1 : D[j]? = some u) (h2 : S[j]? = some v) (h : u ≠ v) : D ≠ S := by
  intro e
  subst e
  rw [h1] at h2
  cases h2
  exact h rfl

theorem open_any (b off n c : Nat) (xs : List UInt8) (w : World) (hT : Tab w) (ha : RB w (some ⟨b, off, none⟩) n xs) (h4 : 4 ≤ n) (hc : n ≤ c) (hn : n ≤ 10000) :
    Calls Tryd.prog 62 #[.slice (some ⟨b, off, none⟩) n c] w fun e w' =>
      (xs.drop (n - 4) = sum4 (crc (xs.take (n - 4))) ∧ ∃ v, e = .returned (.tuple #[v, .nilIface]) ∧ NewB w w' v (xs.take (n - 4)) ∧ Fr None' w w') ∨
      (xs.drop (n - 4) ≠ sum4 (crc (xs.take (n - 4))) ∧ ∃ g, e = .returned (.tuple #[.slice none 0 0, errV g]) ∧ Fault w' g (n - 4 : Nat) 11 ∧ Fr None' w w') := by
  obtain ⟨k, rfl⟩ : ∃ k, n = k + 4 := ⟨n - 4, by omega⟩
  rw [Nat.add_sub_cancel]
  have hl := ha.len1
  rw [List.length_map] at hl
  have htk : RB w (some ⟨b, off, none⟩) k (xs.take k) := by
    have := ha.take (k := k) (by omega)
    rwa [Nat.mul_one, ← List.map_take] at this
  have Hs := Lib.hid (sum_any (some ⟨b, off, none⟩) k c (xs.take k) w hT htk (by omega))
  have Hw := Lib.hid fun q => with_any (some ⟨b, off, none⟩) none k 0 c 0 (xs.take k) [] (w.drewN q) (htk.frn ((Fr.refl _ _).drewN q)) Reads.nil (by omega)
  rw [List.append_nil] at Hw
  have He := Lib.hid fun w => wrap_any k 11 w
  have hd4 : decide ((k : Int) + 4 < 4) = false := by simp; omega
  go_enter Tryd.func62, Tryd.ntmps62
  go_wp2_with (first | (go_at_call 43; refine Hs.out.mono ?_; rintro e w' ⟨rfl, rfl⟩))
  have hs := crc_lt (xs.take k)
  generalize hS : crc (xs.take k) = s at hs
  have HS := Lib.hid hS
  clear hS Hs
  go_loopw [20] (fun i wr => ∃ j q : Nat, j ≤ 4 ∧ i = .int .i64 j ∧ wr = w.drewN q ∧ (xs.drop k).take j = (sum4 s).take j) (fun i _ => 4 - (intOf i).toNat)
  case atStart => exact ⟨0, 0, Nat.zero_le _, rfl, rfl, rfl⟩
  case round =>
    obtain ⟨j, q, hj, rfl, rfl, hpre⟩ := hrel
    have HP := Lib.hid hpre
    clear hpre
    by_cases hlt : j < 4
    · obtain ⟨b', off', u, hA, hb, hx, hcell⟩ := ha.at_ (k := k + j) (by omega)
      cases hA
      obtain rfl | rfl | rfl | rfl : j = 0 ∨ j = 1 ∨ j = 2 ∨ j = 3 := by omega
      · rw [Nat.add_zero] at hcell
        have e1 : IntKind.i64.wrap (k : Int) = (k : Int) := IntWalk.i64_in _ (by omega)
        have e2 : (0 : Int) ≤ (k : Int) := by omega
        have e3 : (k : Int) < (k : Int) + 4 := by omega
        have hD : (xs.drop k)[0]? = some u := by rw [List.getElem?_drop]; exact hx
        have hS4 : (sum4 s)[0]? = some (lo8 s) := rfl
        by_cases hq : u = lo8 s
        · have hb1 := ne_lo8_f u s (s : Int) (by omega) hq
          have HN := Lib.hid (pre_snoc HP.out hD (by rw [hS4, hq]))
          clear hq hD hS4
          go_wp2
          go_quiet (fail)
          go_wp2
          go_roundw
          case rel => exact ⟨1, q + nq, by omega, rfl, rfl, HN.out⟩
          case measure => simp [intOf]
        · have hb1 := ne_lo8_t u s (s : Int) (by omega) hq
          have HN := Lib.hid (pre_ne hD hS4 hq)
          go_wp2
          go_quiet (fail)
          go_wp2_with (go_at_call 22; refine (He.out _).mono ?_; rintro e w' ⟨rfl, hF, rfl⟩)
          go_ret2
          exact .inr ⟨by rw [HS.out]; exact HN.out, _, rfl, hF, ((Fr.refl _ _).drewN _).alloc _⟩
      · skip
        have e1 : IntKind.i64.wrap ((k : Int) + 1) = ((k : Int) + 1) := IntWalk.i64_in _ (by omega)
        have e2 : (0 : Int) ≤ ((k : Int) + 1) := by omega
        have e3 : ((k : Int) + 1).toNat = k + 1 := by omega
        have hD : (xs.drop k)[1]? = some u := by rw [List.getElem?_drop]; exact hx
        have hS4 : (sum4 s)[1]? = some (lo8 (s / 256)) := rfl
        by_cases hq : u = lo8 (s / 256)
        · have hb1 := ne_lo8_f u (s / 256) ((s : Int) / 256) (by omega) hq
          have HN := Lib.hid (pre_snoc HP.out hD (by rw [hS4, hq]))
          clear hq hD hS4
          go_wp2
          go_quiet (fail)
          go_wp2
          go_roundw
          case rel => exact ⟨2, q + nq, by omega, rfl, rfl, HN.out⟩
          case measure => simp [intOf]
        · have hb1 := ne_lo8_t u (s / 256) ((s : Int) / 256) (by omega) hq
          have HN := Lib.hid (pre_ne hD hS4 hq)
          go_wp2
          go_quiet (fail)
          go_wp2_with (go_at_call 22; refine (He.out _).mono ?_; rintro e w' ⟨rfl, hF, rfl⟩)
          go_ret2
          exact .inr ⟨by rw [HS.out]; exact HN.out, _, rfl, hF, ((Fr.refl _ _).drewN _).alloc _⟩
      · skip
        have e1 : IntKind.i64.wrap ((k : Int) + 2) = ((k : Int) + 2) := IntWalk.i64_in _ (by omega)
        have e2 : (0 : Int) ≤ ((k : Int) + 2) := by omega
        have e3 : ((k : Int) + 2).toNat = k + 2 := by omega
        have hD : (xs.drop k)[2]? = some u := by rw [List.getElem?_drop]; exact hx
        have hS4 : (sum4 s)[2]? = some (lo8 (s / 65536)) := rfl
        by_cases hq : u = lo8 (s / 65536)
        · have hb1 := ne_lo8_f u (s / 65536) ((s : Int) / 65536) (by omega) hq
          have HN := Lib.hid (pre_snoc HP.out hD (by rw [hS4, hq]))
          clear hq hD hS4
          go_wp2
          go_quiet (fail)
          go_wp2
          go_roundw
          case rel => exact ⟨3, q + nq, by omega, rfl, rfl, HN.out⟩
          case measure => simp [intOf]
        · have hb1 := ne_lo8_t u (s / 65536) ((s : Int) / 65536) (by omega) hq
          have HN := Lib.hid (pre_ne hD hS4 hq)
          go_wp2
          go_quiet (fail)
          go_wp2_with (go_at_call 22; refine (He.out _).mono ?_; rintro e w' ⟨rfl, hF, rfl⟩)
          go_ret2
          exact .inr ⟨by rw [HS.out]; exact HN.out, _, rfl, hF, ((Fr.refl _ _).drewN _).alloc _⟩
      · skip
        have e1 : IntKind.i64.wrap ((k : Int) + 3) = ((k : Int) + 3) := IntWalk.i64_in _ (by omega)
        have e2 : (0 : Int) ≤ ((k : Int) + 3) := by omega
        have e3 : ((k : Int) + 3).toNat = k + 3 := by omega
        have hD : (xs.drop k)[3]? = some u := by rw [List.getElem?_drop]; exact hx
        have hS4 : (sum4 s)[3]? = some (lo8 (s / 16777216)) := rfl
        by_cases hq : u = lo8 (s / 16777216)
        · have hb1 := ne_lo8_f u (s / 16777216) ((s : Int) / 16777216) (by omega) hq
          have HN := Lib.hid (pre_snoc HP.out hD (by rw [hS4, hq]))
          clear hq hD hS4
          go_wp2
          go_quiet (fail)
          go_wp2
          go_roundw
          case rel => exact ⟨4, q + nq, by omega, rfl, rfl, HN.out⟩
          case measure => simp [intOf]
        · have hb1 := ne_lo8_t u (s / 16777216) ((s : Int) / 16777216) (by omega) hq
          have HN := Lib.hid (pre_ne hD hS4 hq)
          go_wp2
          go_quiet (fail)
          go_wp2_with (go_at_call 22; refine (He.out _).mono ?_; rintro e w' ⟨rfl, hF, rfl⟩)
          go_ret2
          exact .inr ⟨by rw [HS.out]; exact HN.out, _, rfl, hF, ((Fr.refl _ _).drewN _).alloc _⟩
    · obtain rfl : j = 4 := by omega
      have HN : Hid (xs.drop k = sum4 s) := by
        have := HP.out
        rw [List.take_of_length_le (by simp; omega), List.take_of_length_le (by simp [sum4])] at this
        exact this
      go_wp2_with (go_at_call 44; refine (Hw.out _).mono ?_; rintro e w' ⟨v, rfl, hv, hf⟩)
      go_ret2
      exact .inl ⟨by rw [HS.out]; exact HN.out, v, rfl, hv.later (Nat.le_refl _), ((Fr.refl _ _).drewN _).trans' hf⟩
end Go.Proofs.YtodkhoclbhdihaaDoor
