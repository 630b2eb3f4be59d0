/-
  Contracts of sent and seen.
-/
import Derived.Test.YtodkhoclbhdihaaDoorLaw2
import Derived.Test.YtodkhoclbhdihaaDoorTrip
namespace Go.Proofs.YtodkhoclbhdihaaDoor
open Go.RowKit

theorem enc_all (B : Nat) (m : GMsg) (w : World) (hG : Glb B w) : Calls Tryd.prog 18 #[msgV m] w fun e w' => EncPost w m e w' := by
  by_cases h : m.kind < 1 ∨ 6 < m.kind
  · refine (enc_kind m w h).mono fun e w' h' => ?_
    unfold EncPost encF
    rw [if_pos h]
    exact h'
  · exact enc_any B m w hG (by omega) (by omega)

/-- What sent answers. -/
def SentPost (w : World) (fr to_ : Int) (m : GMsg) (e : Ending) (w' : World) : Prop :=
  match encF m with
  | .ok l => ∃ g, e = .returned (.tuple #[dgV fr to_ (.slice (some ⟨g, 0, none⟩) l.length l.length) false, .bool true]) ∧ w.heap.size ≤ g ∧ Blk w' g 5 (l.map bv).toArray ∧ Fr None' w w'
  | .error _ => e = .returned (.tuple #[dgV fr to_ (.slice none 0 0) false, .bool false]) ∧ Fr None' w w'

set_option maxHeartbeats 8000000 in
theorem sent_any (B : Nat) (fr to_ : Int) (m : GMsg) (w : World) (hG : Glb B w) :
    Calls Tryd.prog 6 #[.int .i64 fr, .int .i64 to_, msgV m] w fun e w' => SentPost w fr to_ m e w' := by
  have hE : ∀ w0, Fr None' w w0 → Calls Tryd.prog 18 #[msgV m] w0 fun e w' => EncPost w0 m e w' := fun w0 h => enc_all B m w0 (hG.fr h fun _ h => h.elim)
  have HE := Lib.hid hE
  clear hE hG
  unfold SentPost
  unfold EncPost at HE
  generalize encF m = en at *
  obtain ⟨k, ep, cl, hv, fi, nu, ac, rv, tg, ⟨ok, op, oc, ol, os⟩⟩ := m
  unfold msgV msgCells opCells at *
  simp only [List.cons_append, List.nil_append] at *
  unfold dgV
  have hf0 : Fr None' w ((w.alloc (.cells #[.int .i64 k, .int .i64 ep, .int .i64 cl, .int .i64 hv, .int .i64 fi, .int .i64 nu, .int .i64 ac, .int .i64 rv, .int .i64 tg, .int .i64 ok, .int .i64 op, .int .u8 (oc.toNat : Int), .int .i64 ol, .int .i64 os] 25)).alloc (.cells #[.int .i64 0, .int .i64 0, .slice none 0 0, .bool false] 33)) := ((Fr.refl _ _).alloc _).alloc _
  have HF0 := Lib.hid hf0
  have HE1 := Lib.hid (HE.out _ hf0)
  have hD : Blk ((w.alloc (.cells #[.int .i64 k, .int .i64 ep, .int .i64 cl, .int .i64 hv, .int .i64 fi, .int .i64 nu, .int .i64 ac, .int .i64 rv, .int .i64 tg, .int .i64 ok, .int .i64 op, .int .u8 (oc.toNat : Int), .int .i64 ol, .int .i64 os] 25)).alloc (.cells #[.int .i64 0, .int .i64 0, .slice none 0 0, .bool false] 33)) (w.heap.size + 1) 33 #[.int .i64 0, .int .i64 0, .slice none 0 0, .bool false] := by
    have := Blk.new (w.alloc (.cells #[.int .i64 k, .int .i64 ep, .int .i64 cl, .int .i64 hv, .int .i64 fi, .int .i64 nu, .int .i64 ac, .int .i64 rv, .int .i64 tg, .int .i64 ok, .int .i64 op, .int .u8 (oc.toNat : Int), .int .i64 ol, .int .i64 os] 25)) 33 #[.int .i64 0, .int .i64 0, .slice none 0 0, .bool false]
    simpa using this
  have HD := Lib.hid hD
  clear hf0 hD HE
  cases en with
  | error x =>
    obtain ⟨c, pl⟩ := x
    dsimp only at *
    go_enter Tryd.func6, Tryd.ntmps6
    go_wp2_with fail
    refine HE1.out.mono ?_
    rintro e1 w1 ⟨g, rfl, hF, hf1⟩
    clear hF
    dsimp only
    have HF1 := Lib.hid (HF0.out.trans' hf1)
    have hD1 := HD.out.fr hf1 fun h => h
    have HD1 := Lib.hid hD1
    clear hf1 hD1 HE1
    (try unfold errV)
    go_wp2
    refine wp_region_M (Only (w.heap.size + 1)) (by kernel_rfl) ?_
    refine wpM_heads 6 0 2 (by kernel_rfl) (by kernel_rfl) ?_ (by kernel_rfl)
    simp only [List.take_succ_cons, List.take_zero, List.drop_zero]
    repeat (go_big_quiet_step (fail))
    refine wpQuiet_nil ?_
    refine wpM_step 6 rfl (by kernel_rfl) (fun w2 h2 h2' => ?_)
    have hD2 := HD1.out.drew.fr h2' fun h => h
    have y1 := fun i => Blk.cell hD2 i
    have y2 := fun i => Blk.frozen hD2 i
    have HD2 := Lib.hid hD2
    have H2 := Lib.hid h2
    clear h2 h2' hD2
    go_wp2_with fail
    refine ⟨MC.mk ?_, ?_⟩
    · iterate 4 refine Fr.setCell (S := Only (w.heap.size + 1)) ?_ (.inr (show w.heap.size + 1 = w.heap.size + 1 from rfl)) _
      exact H2.out
    have HD3 := Lib.hid ((((HD2.out.set_ 0 (.int .i64 fr)).set_ 1 (.int .i64 to_)).set_ 2 (.slice none 0 0)).set_ 3 (.bool false))
    clear y1 y2 H2
    refine wpM_step 7 rfl (by kernel_rfl) (fun w3 h3 h3' => ?_)
    have HD4 := Lib.hid (HD3.out.fr h3' fun h => h)
    have H3 := Lib.hid h3
    clear h3 h3'
    go_wp2_with fail
    refine ⟨MC.mk H3.out, ?_⟩
    refine wpM_done (by kernel_rfl) (fun w4 h4 h4' => ?_)
    have hD5 : Blk w4 (w.heap.size + 1) 33 #[.int .i64 fr, .int .i64 to_, (.slice none 0 0), .bool false] := by
      have := HD4.out.fr h4' fun h => h
      simpa using this
    have HF4 := Lib.hid (HF1.out.trans h4 fun i hi hs => by unfold Only at hs; omega)
    have H4 := Lib.hid h4
    have y1 : ∀ i, w4.cell? ⟨w.heap.size + 1, i, none⟩ = (#[.int .i64 fr, .int .i64 to_, (.slice none 0 0), .bool false] : Array Value)[i]? := fun i => Blk.cell hD5 i
    clear h4 h4' hD5
    go_wp2
    exact bodyPost_ret (v := .tuple #[.agg #[.int .i64 fr, .int .i64 to_, (.slice none 0 0), .bool false], .bool false]) (by simp [results, Tryd.results6, go_sem, y1]) rfl ⟨rfl, HF4.out⟩
  | ok l =>
    dsimp only at *
    go_enter Tryd.func6, Tryd.ntmps6
    go_wp2_with fail
    refine HE1.out.mono ?_
    rintro e1 w1 ⟨_, rfl, ⟨g, hg, rfl, hb⟩, hf1⟩
    have HGB := Lib.hid hb
    have HG1 := Lib.hid hg
    clear hb hg
    dsimp only
    have HF1 := Lib.hid (HF0.out.trans' hf1)
    have hD1 := HD.out.fr hf1 fun h => h
    have HD1 := Lib.hid hD1
    clear hf1 hD1 HE1
    (try unfold errV)
    go_wp2
    refine wp_region_M (Only (w.heap.size + 1)) (by kernel_rfl) ?_
    refine wpM_heads 6 0 2 (by kernel_rfl) (by kernel_rfl) ?_ (by kernel_rfl)
    simp only [List.take_succ_cons, List.take_zero, List.drop_zero]
    repeat (go_big_quiet_step (fail))
    refine wpQuiet_nil ?_
    refine wpM_step 6 rfl (by kernel_rfl) (fun w2 h2 h2' => ?_)
    have hD2 := HD1.out.drew.fr h2' fun h => h
    have y1 := fun i => Blk.cell hD2 i
    have y2 := fun i => Blk.frozen hD2 i
    have HD2 := Lib.hid hD2
    have H2 := Lib.hid h2
    clear h2 h2' hD2
    go_wp2_with fail
    refine ⟨MC.mk ?_, ?_⟩
    · iterate 4 refine Fr.setCell (S := Only (w.heap.size + 1)) ?_ (.inr (show w.heap.size + 1 = w.heap.size + 1 from rfl)) _
      exact H2.out
    have HD3 := Lib.hid ((((HD2.out.set_ 0 (.int .i64 fr)).set_ 1 (.int .i64 to_)).set_ 2 (.slice (some ⟨g, 0, none⟩) l.length l.length)).set_ 3 (.bool false))
    clear y1 y2 H2
    refine wpM_step 7 rfl (by kernel_rfl) (fun w3 h3 h3' => ?_)
    have HD4 := Lib.hid (HD3.out.fr h3' fun h => h)
    have H3 := Lib.hid h3
    clear h3 h3'
    go_wp2_with fail
    refine ⟨MC.mk H3.out, ?_⟩
    refine wpM_done (by kernel_rfl) (fun w4 h4 h4' => ?_)
    have hD5 : Blk w4 (w.heap.size + 1) 33 #[.int .i64 fr, .int .i64 to_, (.slice (some ⟨g, 0, none⟩) l.length l.length), .bool false] := by
      have := HD4.out.fr h4' fun h => h
      simpa using this
    have HF4 := Lib.hid (HF1.out.trans h4 fun i hi hs => by unfold Only at hs; omega)
    have H4 := Lib.hid h4
    have y1 : ∀ i, w4.cell? ⟨w.heap.size + 1, i, none⟩ = (#[.int .i64 fr, .int .i64 to_, (.slice (some ⟨g, 0, none⟩) l.length l.length), .bool false] : Array Value)[i]? := fun i => Blk.cell hD5 i
    clear h4 h4' hD5
    go_wp2
    exact bodyPost_ret (v := .tuple #[.agg #[.int .i64 fr, .int .i64 to_, (.slice (some ⟨g, 0, none⟩) l.length l.length), .bool false], .bool true]) (by simp [results, Tryd.results6, go_sem, y1]) rfl ⟨g, rfl, Nat.le_trans HF0.out.size HG1.out, HGB.out.fr H4.out (fun e => by have := HG1.out; have := HD.out.lt; unfold Only at e; omega), HF4.out⟩
end Go.Proofs.YtodkhoclbhdihaaDoor
