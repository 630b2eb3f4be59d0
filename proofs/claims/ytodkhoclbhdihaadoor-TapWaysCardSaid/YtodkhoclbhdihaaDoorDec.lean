/-
  Contract of wire's body: the sum taken off a datagram.
-/
import Derived.Test.YtodkhoclbhdihaaDoorEnc
namespace Go.Proofs.YtodkhoclbhdihaaDoor
open Go.RowKit

/-- An answer of an error: nothing and the error. -/
def ErrPost (z : Value) (w : World) (c a : Int) (e : Ending) (w' : World) : Prop := ∃ g, e = .returned (.tuple #[z, errV g]) ∧ Fault w' g a c ∧ Fr None' w w'

theorem fr_mid {w w1 w2 : World} {o : Obj} (h : Fr None' w w1) (k : Fr (Only w1.heap.size) (w1.alloc o) w2) : Fr None' w w2 :=
  (h.alloc o).trans k fun i hi hs => by unfold Only at hs; have := h.size; omega

theorem body_long (A : Option Addr) (n c : Nat) (w : World) (hn : 64 < n) :
    Calls Tryd.prog 36 #[.slice A n c] w (ErrPost (.slice none 0 0) w 60 64) := by
  have He := Lib.hid fun w => wrap_any 64 60 w
  go_enter Tryd.func36, Tryd.ntmps36
  go_wp2_with (go_at_call 22; refine (He.out _).mono ?_; rintro e w' ⟨rfl, hF, rfl⟩)
  go_ret2
  exact ⟨_, rfl, hF, (Fr.refl _ _).alloc _⟩

theorem body_short (A : Option Addr) (n c : Nat) (w : World) (hE : ErrT w) (hn : n < 4) :
    Calls Tryd.prog 36 #[.slice A n c] w (ErrPost (.slice none 0 0) w 62 n) := by
  have Ho := Lib.hid (open_short A n c w hn)
  go_enter Tryd.func36, Tryd.ntmps36
  go_wp2_with fail
  refine Ho.out.mono ?_
  rintro e w1 ⟨g, rfl, hF, hf1⟩
  have HF := Lib.hid hF
  have Hf1 := Lib.hid hf1
  have HE1 := Lib.hid (hE.fr hf1 fun h => h)
  clear hF hf1 hE
  have hf2 : Fr None' w1 (w1.alloc (.cells #[.pointer none] 97)) := (Fr.refl _ _).alloc _
  have Ha := Lib.hid (as_fault g w1.heap.size 97 (.pointer none) _ (HE1.out.fr hf2 fun h => h) (Blk.new w1 _ _))
  have HF2 := Lib.hid (HF.out.fr hf2 fun h => h)
  clear hf2
  unfold errV at *
  go_wp2_with fail
  refine Ha.out.mono ?_
  rintro e w2 ⟨rfl, hb, hf⟩
  have hF3 := HF2.out.fr hf (fun h => by have := HF.out.lt; unfold Only at h; omega)
  have HF3 := Lib.hid hF3
  have h0 := hF3.at_
  have h1 := hb.cell 0
  have Hf := Lib.hid hf
  have Hi := Lib.hid (is_any g (n : Int) 10 10 w2 hF3)
  clear hf hb hF3
  unfold errV at *
  go_wp2_with (first | (go_at_call 63; refine Hi.out.mono ?_; rintro e w3 ⟨rfl, rfl⟩) | (go_at_call 22; refine (wrap_any _ _ _).mono ?_; rintro e w' ⟨rfl, hF', rfl⟩))
  go_ret2
  exact ⟨_, rfl, hF', (fr_mid Hf1.out Hf.out).alloc _⟩

theorem body_bad (A : Option Addr) (n c : Nat) (xs : List UInt8) (w : World) (hE : ErrT w) (hT : Tab w) (ha : RB w A n xs) (h4 : 4 ≤ n) (hc : n ≤ c) (hn : n ≤ 64) (hx : xs.drop (n - 4) ≠ sum4 (crc (xs.take (n - 4)))) :
    Calls Tryd.prog 36 #[.slice A n c] w (ErrPost (.slice none 0 0) w 64 ((n - 4 : Nat) : Int)) := by
  obtain ⟨b, off, rfl, _, _⟩ := ha.2 (by omega)
  have ho := open_any b off n c xs w hT ha h4 hc (by omega)
  have Ho : RowKit.Hid (Calls Tryd.prog 62 #[.slice (some ⟨b, off, none⟩) n c] w fun e w' => ∃ g, e = .returned (.tuple #[.slice none 0 0, errV g]) ∧ Fault w' g ((n - 4 : Nat) : Int) 11 ∧ Fr None' w w') :=
    ho.mono fun e w' h => by
      rcases h with h | h
      · exact absurd h.1 hx
      · exact h.2
  obtain ⟨m, hm⟩ : ∃ m : Nat, m = n - 4 := ⟨_, rfl⟩
  rw [← hm] at Ho ⊢
  clear ho hx hT ha hm h4
  go_enter Tryd.func36, Tryd.ntmps36
  go_wp2_with fail
  refine Ho.out.mono ?_
  rintro e w1 ⟨g, rfl, hF, hf1⟩
  have HF := Lib.hid hF
  have Hf1 := Lib.hid hf1
  have HE1 := Lib.hid (hE.fr hf1 fun h => h)
  clear hF hf1 hE
  have hf2 : Fr None' w1 (w1.alloc (.cells #[.pointer none] 97)) := (Fr.refl _ _).alloc _
  have Ha := Lib.hid (as_fault g w1.heap.size 97 (.pointer none) _ (HE1.out.fr hf2 fun h => h) (Blk.new w1 _ _))
  have HF2 := Lib.hid (HF.out.fr hf2 fun h => h)
  clear hf2
  unfold errV at *
  go_wp2_with fail
  refine Ha.out.mono ?_
  rintro e w2 ⟨rfl, hb, hf⟩
  have hF3 := HF2.out.fr hf (fun h => by have := HF.out.lt; unfold Only at h; omega)
  have HF3 := Lib.hid hF3
  have h0 := hF3.at_
  have h1 := hb.cell 0
  have Hf := Lib.hid hf
  have Hi := Lib.hid (is_any g (m : Int) 11 10 w2 hF3)
  clear hf hb hF3
  unfold errV at *
  go_wp2_with (first | (go_at_call 63; refine Hi.out.mono ?_; rintro e w3 ⟨rfl, rfl⟩) | (go_at_call 22; refine (wrap_any _ _ _).mono ?_; rintro e w' ⟨rfl, hF', rfl⟩))
  go_ret2
  exact ⟨_, rfl, hF', (fr_mid Hf1.out Hf.out).alloc _⟩

/-- Where the sum is right: the bytes ahead of it, in new memory. -/
theorem body_ok (A : Option Addr) (n c : Nat) (xs : List UInt8) (w : World) (hT : Tab w) (ha : RB w A n xs) (h4 : 4 ≤ n) (hc : n ≤ c) (hn : n ≤ 64) (hx : xs.drop (n - 4) = sum4 (crc (xs.take (n - 4)))) :
    Calls Tryd.prog 36 #[.slice A n c] w fun e w' =>
      (n = 4 → ErrPost (.slice none 0 0) w 62 0 e w') ∧ (4 < n → ∃ v, e = .returned (.tuple #[v, .nilIface]) ∧ NewB w w' v (xs.take (n - 4)) ∧ Fr None' w w') := by
  obtain ⟨b, off, rfl, _, _⟩ := ha.2 (by omega)
  have hlen := ha.len1
  rw [List.length_map] at hlen
  have ho := open_any b off n c xs w hT ha h4 hc (by omega)
  have Ho : RowKit.Hid (Calls Tryd.prog 62 #[.slice (some ⟨b, off, none⟩) n c] w fun e w' => ∃ v, e = .returned (.tuple #[v, .nilIface]) ∧ NewB w w' v (xs.take (n - 4)) ∧ Fr None' w w') :=
    ho.mono fun e w' h => by
      rcases h with h | h
      · exact h.2
      · exact absurd hx h.1
  have hl2 : (xs.take (n - 4)).length = n - 4 := by simp; omega
  have HL := Lib.hid hl2
  have HA := Lib.hid fun t w => as_nil t w
  clear ho hx hT ha hl2 hlen
  generalize xs.take (n - 4) = l at *
  by_cases h : n = 4
  · have HH := Lib.hid h
    have hl0 : l.length = 0 := by have := HL.out; omega
    obtain rfl : l = [] := List.eq_nil_of_length_eq_zero hl0
    clear h hl0
    go_enter Tryd.func36, Tryd.ntmps36
    go_wp2_with fail
    refine Ho.out.mono ?_
    rintro e w1 ⟨v, rfl, ⟨g, hg, rfl, hb⟩, hf⟩
    have HF := Lib.hid hf
    clear hb hf hg
    go_wp2_with (first | (go_at_call 33; refine (HA.out _ _).mono ?_; rintro e w3 ⟨rfl, rfl⟩) | (go_at_call 22; refine (wrap_any _ _ _).mono ?_; rintro e w' ⟨rfl, hF', rfl⟩))
    go_ret2
    exact ⟨fun _ => ⟨_, rfl, by simpa using hF', (HF.out.alloc _).alloc _⟩, fun h => by have := HH.out; omega⟩
  · have HH := Lib.hid h
    have hl0 : ((l.length : Int) == 0) = false := by have := HL.out; simp; intro e; rw [e] at this; simp at this; omega
    clear h
    go_enter Tryd.func36, Tryd.ntmps36
    go_wp2_with fail
    refine Ho.out.mono ?_
    rintro e w1 ⟨v, rfl, ⟨g, hg, rfl, hb⟩, hf⟩
    have HF := Lib.hid hf
    have HB := Lib.hid hb
    clear hb hf
    go_wp2_with (first | (go_at_call 33; refine (HA.out _ _).mono ?_; rintro e w3 ⟨rfl, rfl⟩))
    go_ret2
    exact ⟨fun h => absurd h HH.out, fun _ => ⟨_, rfl, ⟨g, hg, rfl, HB.out.alloc _⟩, HF.out.alloc _⟩⟩
end Go.Proofs.YtodkhoclbhdihaaDoor
