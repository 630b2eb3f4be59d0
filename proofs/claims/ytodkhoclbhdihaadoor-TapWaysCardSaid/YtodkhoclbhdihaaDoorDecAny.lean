/-
  Contract of wire's Decode, all cases in one.
-/
import Derived.Test.YtodkhoclbhdihaaDoorDecode
namespace Go.Proofs.YtodkhoclbhdihaaDoor
open Go.RowKit

theorem decode_any (B : Nat) (A : Option Addr) (n c : Nat) (xs : List UInt8) (w : World) (hG : Glb B w) (ha : RB w A n xs) (hc : n ≤ c) :
    Calls Tryd.prog 23 #[.slice A n c] w (DecPost w xs) := by
  have hl := ha.len1
  rw [List.length_map] at hl
  have hG' : ∀ w', Fr None' w w' → Glb B w' := fun w' h => hG.fr h fun _ h => h.elim
  unfold DecPost decF
  by_cases h64 : 64 < n
  · rw [if_pos (by omega)]
    exact dec_err A n c 60 64 w fun w' _ => body_long A n c w' h64
  rw [if_neg (by omega)]
  by_cases h4 : n < 4
  · rw [if_pos (by omega), hl]
    exact dec_err A n c 62 n w fun w' h => body_short A n c w' (hG' w' h).err h4
  rw [if_neg (by omega), hl]
  by_cases hx : xs.drop (n - 4) = sum4 (crc (xs.take (n - 4)))
  · rw [if_pos hx]
    by_cases hn4 : n = 4
    · have hnil : xs.take (n - 4) = [] := by subst hn4; rfl
      rw [hnil]
      exact dec_err A n c 62 0 w fun w' h => (body_ok A n c xs w' (hG' w' h).tab (ha.frn h) (by omega) hc (by omega) hx).mono fun e w2 h => h.1 hn4
    · obtain ⟨k, l, hkl⟩ : ∃ k l, xs.take (n - 4) = k :: l := by
        cases h : xs.take (n - 4) with
        | nil => have := congrArg List.length h; rw [List.length_take, List.length_nil] at this; omega
        | cons k l => exact ⟨k, l, rfl⟩
      have hll : l.length ≤ 60 := by have := congrArg List.length hkl; rw [List.length_take, List.length_cons] at this; omega
      have hb : ∀ w', Fr None' w w' → Calls Tryd.prog 36 #[.slice A n c] w' fun e w2 => ∃ v, e = .returned (.tuple #[v, .nilIface]) ∧ NewB w' w2 v (k :: l) ∧ Fr None' w' w2 :=
        fun w' h => (body_ok A n c xs w' (hG' w' h).tab (ha.frn h) (by omega) hc (by omega) hx).mono fun e w2 h => by rw [← hkl]; exact h.2 (by omega)
      rw [hkl]
      unfold bodyF
      by_cases hk : k.toNat < 1 ∨ 6 < k.toNat
      · simp only [if_pos hk]
        exact dec_in_kind B A n c k l w hG hll hk hb
      · simp only [if_neg hk]
        by_cases hne : l.length = lenF (shape k.toNat)
        · rw [if_neg (by simp; omega)]
          refine (dec_in_pick B A n c k l w hG hll (by omega) (by omega) hne hb).mono fun e w' h => ?_
          unfold InPost at h
          have e0 : setV (fun _ => 0) 0 (k.toNat : Int) = setV zeroV 0 (k.toNat : Int) := rfl
          rw [e0]
          generalize pickF (k :: l) (decide (k.toNat = 2)) (shape k.toNat) 1 (setV zeroV 0 (k.toNat : Int)) = res at *
          cases res <;> exact h
        · rw [if_pos (by simp; omega)]
          exact dec_in_len B A n c k l w hG hll (by omega) (by omega) hne hb
  · rw [if_neg hx]
    exact dec_err A n c 64 _ w fun w' h => body_bad A n c xs w' (hG' w' h).err (hG' w' h).tab (ha.frn h) (by omega) hc (by omega) hx
end Go.Proofs.YtodkhoclbhdihaaDoor
