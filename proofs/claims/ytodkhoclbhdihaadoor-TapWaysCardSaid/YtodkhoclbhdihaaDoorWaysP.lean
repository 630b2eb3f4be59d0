/-
  The plain law behind TapWays. No memory and no program in it.
-/
import Derived.Test.YtodkhoclbhdihaaDoorLaw5
namespace Go.Proofs.YtodkhoclbhdihaaDoor

def mineB (m : GMsg) : Prop := m.kind = 4 ∨ m.kind = 5 ∨ m.kind = 6
theorem ways_law (N : Int) (m : GMsg) (fr to_ : Int) (xs : List UInt8) (hN : 1 ≤ N) (he : encF m = .ok xs) :
    (¬ (fr = 0 ∧ 1 ≤ to_ ∧ to_ ≤ N) → ¬ (to_ = 0 ∧ 1 ≤ fr ∧ fr ≤ N) → (seeF (T1 N) fr to_ xs).1.1 = 71 ∧ (seeF (T1 N) fr to_ xs).2.epoch = 1) ∧
    (((fr = 0 ∧ 1 ≤ to_ ∧ to_ ≤ N) ∨ (to_ = 0 ∧ 1 ≤ fr ∧ fr ≤ N)) →
      (¬ ((mineB m ↔ fr = 0) ∧ m.client = fr + to_) → (seeF (T1 N) fr to_ xs).1.1 = 281 ∧ (seeF (T1 N) fr to_ xs).2.epoch = 1) ∧
      ((mineB m ↔ fr = 0) ∧ m.client = fr + to_ →
        ((seeF (T1 N) fr to_ xs).1.1 = 280 ∧ (m.kind = 5 ∨ m.kind = 2) ∧ (seeF (T1 N) fr to_ xs).2.epoch = 1) ∨ ((seeF (T1 N) fr to_ xs).1.1 = 0 ∧ (seeF (T1 N) fr to_ xs).2.epoch = m.epoch))) := by
  obtain ⟨e1, e2, e3, e4⟩ := enc_epoch he
  have hd := trip he
  by_cases hb : badAdr (T1 N).clients fr to_
  · rw [see_bad hb]
    have hb' : (decide (fr = 0) == decide (to_ = 0)) = true ∨ (fr < 0 ∨ to_ < 0) ∨ (N < fr ∨ N < to_) := hb
    refine ⟨fun _ _ => ⟨rfl, rfl⟩, fun h => ?_⟩
    exfalso
    rcases hb' with hb' | hb'
    · rcases h with h | h
      · have h0 : decide (fr = 0) = true := by simpa using h.1
        have h2 : decide (to_ = 0) = false := by simp; omega
        rw [h0, h2] at hb'
        cases hb'
      · have h0 : decide (to_ = 0) = true := by simpa using h.1
        have h2 : decide (fr = 0) = false := by simp; omega
        rw [h0, h2] at hb'
        cases hb'
    · omega
  · rw [see_msg hb hd]
    have hb' : ¬ ((decide (fr = 0) == decide (to_ = 0)) = true ∨ (fr < 0 ∨ to_ < 0) ∨ (N < fr ∨ N < to_)) := hb
    have hup : (fr = 0 ∧ 1 ≤ to_ ∧ to_ ≤ N) ∨ (to_ = 0 ∧ 1 ≤ fr ∧ fr ≤ N) := by
      by_cases h1 : fr = 0 <;> by_cases h2 : to_ = 0
      · exact absurd (.inl (by simp [h1, h2])) hb'
      · left; omega
      · right; omega
      · exact absurd (.inl (by simp [h1, h2])) hb'
    refine ⟨fun h1 h2 => absurd hup (by rintro (h | h); exact h1 h; exact h2 h), fun _ => ?_⟩
    have hw : rightWay m fr to_ = true ↔ ((mineB m ↔ fr = 0) ∧ m.client = fr + to_) := by
      unfold rightWay mineB
      split <;> simp only [Bool.and_eq_true, decide_eq_true_eq] <;> constructor <;> intro h <;> omega
    constructor
    · intro h
      have : rightWay m fr to_ = false := by
        cases hh : rightWay m fr to_
        · rfl
        · exact absurd (hw.1 hh) h
      rw [if_pos this]
      exact ⟨rfl, rfl⟩
    · intro h
      have hr := hw.2 h
      have hmx : maxI (T1 N).epoch m.epoch = m.epoch := by
        unfold maxI T1
        dsimp only
        split <;> omega
      rw [if_neg (by rw [hr]; simp)]
      by_cases h5 : m.kind = 5
      · rw [if_pos h5]
        cases fitsRec (T1 N) m.rev m.op
        · exact .inl ⟨rfl, .inl h5, rfl⟩
        · exact .inr ⟨rfl, hmx⟩
      · rw [if_neg h5]
        by_cases h2 : m.kind = 2
        · rw [if_pos h2]
          cases fitsEd (T1 N) ⟨m.tag, m.op⟩
          · exact .inl ⟨rfl, .inr h2, rfl⟩
          · exact .inr ⟨rfl, hmx⟩
        · rw [if_neg h2]
          exact .inr ⟨rfl, hmx⟩
end Go.Proofs.YtodkhoclbhdihaaDoor
