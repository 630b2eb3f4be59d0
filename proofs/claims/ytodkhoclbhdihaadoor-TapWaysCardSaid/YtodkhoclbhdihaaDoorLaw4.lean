/-
  Contract of seen.
-/
import Derived.Test.YtodkhoclbhdihaaDoorLaw3
namespace Go.Proofs.YtodkhoclbhdihaaDoor
open Go.RowKit

theorem code_is (w : World) (X : Value) (x : Int × Int) (hG : ErrT w) (hX : ErrIs w X x) : Calls Tryd.prog 20 #[X] w fun e w' => e = .returned (.int .i64 x.1) ∧ Fr None' w w' := by
  rcases hX with ⟨rfl, rfl⟩ | ⟨_, g, rfl, hF⟩
  · exact code_nil w
  · exact code_fault g x.2 x.1 w hG hF

set_option maxHeartbeats 4000000 in
theorem seen_any (B a r v e : Nat) (T : GTap) (fr to_ : Int) (A : Option Addr) (n c : Nat) (xs : List UInt8) (sp : Bool) (w : World) (hG : Glb B w) (hB : ∀ k, Its a r v e k → B ≤ k) (hT : TapAt w a r v e T) (ha : RB w A n xs) (hn : n ≤ 1000000) :
    Calls Tryd.prog 7 #[.pointer (some ⟨a, 0, none⟩), dgV fr to_ (.slice A n c) sp] w fun ev w' => ev = .returned (.int .i64 (seeF T fr to_ xs).1.1) ∧ TapAt w' a r v e (seeF T fr to_ xs).2 ∧ Fr (Its a r v e) w w' := by
  have h0 : Fr None' w (w.alloc (.cells #[.int .i64 fr, .int .i64 to_, .slice A n c, .bool sp] 33)) := (Fr.refl _ _).alloc _
  have hD : Blk (w.alloc (.cells #[.int .i64 fr, .int .i64 to_, .slice A n c, .bool sp] 33)) w.heap.size 33 #[.int .i64 fr, .int .i64 to_, .slice A n c, .bool sp] := Blk.new _ _ _
  have HCp := Lib.hid (copied_any A n c xs _ (ha.frn h0) hn)
  have HG := Lib.hid hG
  have HT := Lib.hid hT
  have HD := Lib.hid hD
  have H0 := Lib.hid h0
  have HIlt := Lib.hid hT.lt
  clear hG hT hD h0 ha
  unfold dgV
  go_enter Tryd.func7, Tryd.ntmps7
  go_wp2_with fail
  refine HCp.out.mono ?_
  rintro e1 w1 ⟨r1, rfl, ⟨g, hg, rfl, hb⟩, hf1⟩
  dsimp only
  have hD1 := HD.out.fr hf1 fun h => h
  have hgw : w.heap.size < g := by have := HD.out.lt; omega
  obtain ⟨w2, hw2⟩ : ∃ w2, w2 = w1.setCell ⟨w.heap.size, 2, none⟩ (.slice (some ⟨g, 0, none⟩) xs.length xs.length) := ⟨_, rfl⟩
  have hD2 : Blk w2 w.heap.size 33 #[.int .i64 fr, .int .i64 to_, .slice (some ⟨g, 0, none⟩) xs.length xs.length, .bool sp] := by
    rw [hw2]
    have := hD1.set_ 2 (.slice (some ⟨g, 0, none⟩) xs.length xs.length)
    simpa using this
  have hf2 : Fr (Only w.heap.size) w1 w2 := by rw [hw2]; exact (Fr.refl _ _).setCell (.inr (show Only w.heap.size w.heap.size from rfl)) _
  have hb2 := hb.fr hf2 (fun h => by unfold Only at h; omega)
  have hF2 : Fr None' w w2 := (H0.out.trans' hf1).trans hf2 fun i hi hs => by unfold Only at hs; omega
  have hT2 := HT.out.frn hF2
  have hG2 := HG.out.fr hF2 fun _ h => h.elim
  have hRB2 : RB w2 (some ⟨g, 0, none⟩) xs.length xs := hb2.reads0 (by simp)
  have hS := see_any B a r v e T fr to_ (some ⟨g, 0, none⟩) xs.length xs.length xs sp w2 hG2 hT2 hRB2 (Nat.le_refl _)
  unfold dgV at hS
  have HS := Lib.hid hS
  have HW2 := Lib.hid hw2
  have HF2 := Lib.hid hF2
  have HG2 := Lib.hid hG2
  have y1 := fun i => Blk.cell hD1 i
  have y2 := fun i => Blk.frozen hD1 i
  have y3 : ∀ i, w2.cell? ⟨w.heap.size, i, none⟩ = (#[.int .i64 fr, .int .i64 to_, .slice (some ⟨g, 0, none⟩) xs.length xs.length, .bool sp] : Array Value)[i]? := fun i => Blk.cell hD2 i
  clear hD1 hw2 hD2 hf2 hb2 hF2 hT2 hG2 hRB2 hS hb hf1 hgw HCp hg
  go_wp2_with fail
  rw [← HW2.out]
  refine HS.out.mono ?_
  rintro e2 w3 ⟨X, rfl, hX, hT3, hf3⟩
  dsimp only
  have hC := code_is w3 X _ (HG2.out.fr hf3 hB).err hX
  obtain ⟨cd, hcd⟩ : ∃ cd, cd = (seeF T fr to_ xs).1.1 := ⟨_, rfl⟩
  rw [← hcd] at hC
  have HC := Lib.hid hC
  have HCD := Lib.hid hcd
  clear hC hcd
  have HT3 := Lib.hid hT3
  have HF3 := Lib.hid ((HF2.out.none).trans' hf3)
  clear hX hT3 hf3 y1 y2 y3
  go_wp2_with (go_at_call 20; refine HC.out.mono ?_; rintro e3 w4 ⟨rfl, hf4⟩)
  go_ret
  exact ⟨by rw [← HCD.out]; rfl, HT3.out.frn hf4, HF3.out.trans' hf4.none⟩
end Go.Proofs.YtodkhoclbhdihaaDoor
