/-
  A region that draws its order: all but the last operations only read, the last ones do what they like: one walk in the text's order serves every order. (Out of the library's two laws, for the quiet walk and for a forced tail.) No program in it.
-/
import Derived.Test.YtodkhoclbhdihaaDoorBase
import Derived.StillTail
import Derived.BigQuiet
import Derived.Deep.QuietTactic
namespace Go.Proofs.YtodkhoclbhdihaaDoor

theorem still_of_quiet {P : Program} {ops : Array Oper} {w0 : World} {Q : Act → Prop} : ∀ (l : List Oper) (a : Act), wpQuiet P ops (fun w' => w' = w0) Q l a → wpStill P ops w0 Q l a := by
  intro l
  induction l with
  | nil => intro a h; exact h
  | cons o rest ih =>
    intro a h
    unfold wpQuiet at h
    unfold wpStill
    split
    · rename_i hw
      rw [if_pos hw] at h
      obtain ⟨v, hv, hn⟩ := h
      have hq := hv w0 rfl
      unfold Oper.quietAt at hq
      unfold Oper.still
      generalize (execOp a.eval o).run P w0 = r at hq
      have hn' := ih _ hn
      match r, hq with
      | .ok (.value u) w', ⟨h1, h2⟩ => subst h2; exact ⟨h1, hn'⟩
      | .ok .skip w', ⟨h1, h2⟩ => subst h2; exact ⟨h1, hn'⟩
      | .ok (.enter f args) w', ⟨h1, h2⟩ => exact ⟨h1, v, h2, hn'⟩
    · rename_i hw
      rw [if_neg hw] at h
      exact ih _ h

theorem wp_region_tail {P : Program} {id : Nat} {Q : Exit → Act → World → Prop} {a : Act} {w : World} {l : List Oper} (n : Nat) (hm : P.follows .mixedOrders = true) (hB : Region.lexTailB .any l.toArray n = true)
    (h : wpQuiet P l.toArray (fun w' => w' = w.drew) (fun a' => wpList P l.toArray Q (l.drop n) a' w.drew) (l.take n) a) : (Code.region id l.toArray true).wp P Q a w :=
  wp_region_still_tail n hm hB (still_of_quiet _ _ h)
end Go.Proofs.YtodkhoclbhdihaaDoor
