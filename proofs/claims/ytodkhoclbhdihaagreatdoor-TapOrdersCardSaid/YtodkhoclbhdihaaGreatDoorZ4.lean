/-
  Contracts of a case's made and spoiltRecord.
-/
import Derived.Test.YtodkhoclbhdihaaGreatDoorZ3
namespace Go.Proofs.YtodkhoclbhdihaaGreatDoor
open Go.RowKit

def caseV (c : GCase) : Value := .agg #[.bool c.out, .bool c.gone, .int .i64 c.tag, .int .i64 c.pos, .int .u8 (c.ch.toNat : Int), .int .i64 c.seq, .int .i64 c.rev, .int .i64 c.way]
theorem Blk.fill5 {w : World} {g : Nat} {t : TypeId} {x0 x1 x2 x3 x4 : Value} (h : Blk w g t #[x0, x1, x2, x3, x4]) (a b c d e : Value) :
    Blk (((((w.setCell ⟨g, 0, none⟩ a).setCell ⟨g, 1, none⟩ b).setCell ⟨g, 2, none⟩ c).setCell ⟨g, 3, none⟩ d).setCell ⟨g, 4, none⟩ e) g t #[a, b, c, d, e] :=
  ((((h.set_ 0 a).set_ 1 b).set_ 2 c).set_ 3 d).set_ 4 e
theorem Blk.fill6 {w : World} {g : Nat} {t : TypeId} {x0 x1 x2 x3 x4 x5 : Value} (h : Blk w g t #[x0, x1, x2, x3, x4, x5]) (a b c d e f : Value) :
    Blk ((((((w.setCell ⟨g, 0, none⟩ a).setCell ⟨g, 1, none⟩ b).setCell ⟨g, 2, none⟩ c).setCell ⟨g, 3, none⟩ d).setCell ⟨g, 4, none⟩ e).setCell ⟨g, 5, none⟩ f) g t #[a, b, c, d, e, f] :=
  (((((h.set_ 0 a).set_ 1 b).set_ 2 c).set_ 3 d).set_ 4 e).set_ 5 f
theorem ch_val (ch : UInt8) : (32 + (ch.toNat : Int).tmod 95) % 256 = ((32 + ch.toNat % 95 : Nat) : Int) := by
  have h := ch.toNat_lt
  rw [Int.tmod_eq_emod_of_nonneg (by omega)]
  omega

set_option maxHeartbeats 8000000 in
theorem caseMade_any (out gone : Bool) (tag pos : Int) (ch : UInt8) (seq rev way : Int) (w : World) : Calls Tryz.prog 29 #[.agg #[.bool out, .bool gone, .int .i64 tag, .int .i64 pos, .int .u8 (ch.toNat : Int), .int .i64 seq, .int .i64 rev, .int .i64 way]] w fun e w' =>
    e = .returned (.tuple #[.agg #[.int .i64 (tag % 4097), .int .i64 (if out then 2 else 1), .int .i64 (pos % 4000), .int .u8 (if out then 0 else ((32 + ch.toNat % 95 : Nat) : Int)), .int .i64 1, .int .i64 (2 + seq % 63)],
      .agg #[.int .i64 (if out && gone then 0 else if out then 2 else 1), .int .i64 (if out && gone then 0 else pos % 90), .int .u8 (if out then 0 else ((32 + ch.toNat % 95 : Nat) : Int)), .int .i64 1, .int .i64 (2 + seq % 63)], .int .i64 (2 + rev % 4095)]) ∧ Fr None' w w' := by
  have Hi := Lib.hid into_gen
  have c1 := ch_val ch
  have e1 : IntKind.i64.wrap (2 + seq % 63) = 2 + seq % 63 := IntWalk.i64_in _ (by omega)
  have e2 : IntKind.i64.wrap (2 + rev % 4095) = 2 + rev % 4095 := IntWalk.i64_in _ (by omega)
  generalize ((32 + ch.toNat % 95 : Nat) : Int) = C2 at *
  generalize (ch.toNat : Int) = C0 at *
  obtain ⟨X, hX⟩ : ∃ X : World, X = (((w.alloc (.cells #[.bool out, .bool gone, .int .i64 tag, .int .i64 pos, .int .u8 C0, .int .i64 seq, .int .i64 rev, .int .i64 way] 65)).alloc (.cells #[.int .i64 0, .int .i64 0, .int .i64 0, .int .u8 0, .int .i64 0, .int .i64 0] 67)).alloc (.cells #[.int .i64 0, .int .i64 0, .int .u8 0, .int .i64 0, .int .i64 0] 26)) := ⟨_, rfl⟩
  have HX := Lib.hid hX
  go_enter Tryz.func29, Tryz.ntmps29
  go_wp2
  rw [← HX.out]
  have hXf : Fr None' w X := by rw [hX]; exact (((Fr.refl _ _).alloc _).alloc _).alloc _
  have hC : Blk X w.heap.size 65 #[.bool out, .bool gone, .int .i64 tag, .int .i64 pos, .int .u8 C0, .int .i64 seq, .int .i64 rev, .int .i64 way] := by rw [hX]; exact ((Blk.new _ _ _).alloc _).alloc _
  have hE : Blk X (w.heap.size + 1) 67 #[.int .i64 0, .int .i64 0, .int .i64 0, .int .u8 0, .int .i64 0, .int .i64 0] := by
    rw [hX]
    have := Blk.new (w.alloc (.cells #[.bool out, .bool gone, .int .i64 tag, .int .i64 pos, .int .u8 C0, .int .i64 seq, .int .i64 rev, .int .i64 way] 65)) 67 #[.int .i64 0, .int .i64 0, .int .i64 0, .int .u8 0, .int .i64 0, .int .i64 0]
    simp only [World.size_alloc] at this
    exact this.alloc _
  have hR : Blk X (w.heap.size + 1 + 1) 26 #[.int .i64 0, .int .i64 0, .int .u8 0, .int .i64 0, .int .i64 0] := by
    rw [hX]
    have := Blk.new ((w.alloc (.cells #[.bool out, .bool gone, .int .i64 tag, .int .i64 pos, .int .u8 C0, .int .i64 seq, .int .i64 rev, .int .i64 way] 65)).alloc (.cells #[.int .i64 0, .int .i64 0, .int .i64 0, .int .u8 0, .int .i64 0, .int .i64 0] 67)) 26 #[.int .i64 0, .int .i64 0, .int .u8 0, .int .i64 0, .int .i64 0]
    simp only [World.size_alloc] at this
    exact this
  have hXS : X.heap.size = w.heap.size + 3 := by rw [hX]; simp only [World.size_alloc]
  clear hX
  have y1 := fun i => Blk.cell hC i
  have hrB : ∀ (x : Later X) i, x.w.cell? ⟨w.heap.size, i, none⟩ = (#[.bool out, .bool gone, .int .i64 tag, .int .i64 pos, .int .u8 C0, .int .i64 seq, .int .i64 rev, .int .i64 way] : Array Value)[i]? := fun x => (hC.fr x.fr fun h => h).cell
  have HC := Lib.hid hC
  have HF := Lib.hid hXf
  have HE := Lib.hid hE
  have HR := Lib.hid hR
  clear hC hXf y1 hE hR
  refine wp_region_L (by kernel_rfl) ?_
  refine wpL_heads 2 0 12 (by kernel_rfl) (by kernel_rfl) ?_ (by kernel_rfl)
  simp only [List.take_succ_cons, List.take_zero, List.drop_zero]
  repeat (go_big_quiet_step (fail))
  refine wpQuiet_nil ?_
  refine wpL_call (by kernel_rfl) 2 9 rfl rfl (by kernel_rfl) rfl _ _ (.int .i64 (pos % 4000)) (by intro w; simp [go_sem]) (fun w' _ => (Hi.out _ _ (by omega) (by omega) w').mono fun e w2 h => ⟨h.1, by rw [← h.2]; exact Fr.refl _ _⟩) ?_
  simp only [List.set_cons_succ, List.set_cons_zero]
  refine wpL_heads 6 3 5 (by kernel_rfl) (by kernel_rfl) ?_ (by kernel_rfl)
  simp only [List.take_succ_cons, List.take_zero, List.drop_succ_cons, List.drop_zero]
  repeat (go_big_quiet_step (fail))
  refine wpQuiet_nil ?_
  rw [c1]
  refine wpL_call (by kernel_rfl) 9 16 rfl rfl (by kernel_rfl) rfl _ _ (.int .i64 (seq % 63)) (by intro w; simp [go_sem]) (fun w' _ => (Hi.out _ _ (by omega) (by omega) w').mono fun e w2 h => ⟨h.1, by rw [← h.2]; exact Fr.refl _ _⟩) ?_
  simp only [List.set_cons_succ, List.set_cons_zero]
  refine wpL_heads 2 10 2 (by kernel_rfl) (by kernel_rfl) ?_ (by kernel_rfl)
  simp only [List.take_succ_cons, List.take_zero, List.drop_succ_cons, List.drop_zero]
  repeat (go_big_quiet_step (fail))
  refine wpQuiet_nil ?_

  refine wpL_step 12 rfl (by kernel_rfl) (fun w1 h1 h1' => ?_)
  have H1 := Lib.hid h1
  clear h1 h1' hrB
  go_wp2
  refine ⟨LC.mk (H1.out.alloc _), ?_⟩
  refine wpL_step 13 rfl (by kernel_rfl) (fun w2 h2 h2' => ?_)
  have hb0 := Blk.fr (Blk.new w1 _ _) h2' (fun h => h)
  have y1 := fun i => Blk.cell hb0 i
  have y2 := fun i => Blk.frozen hb0 i
  have HB0 := Lib.hid hb0
  have H2 := Lib.hid h2
  clear h2 h2' hb0
  go_wp2
  refine ⟨LC.mk (((((H2.out.setCell (.inl H1.out.size) _).setCell (.inl H1.out.size) _).setCell (.inl H1.out.size) _).setCell (.inl H1.out.size) _).setCell (.inl H1.out.size) _), ?_⟩
  refine wpL_done (by kernel_rfl) (fun w3 h3 h3' => ?_)
  have HB := Lib.hid ((HB0.out.fill5 (.int .i64 1) (.int .i64 (pos % 4000)) (.int .u8 C2) (.int .i64 1) (.int .i64 (2 + seq % 63))).fr h3' fun h => h)
  have HC3 := Lib.hid (HC.out.fr h3 fun h => h)
  have HF3 := Lib.hid (HF.out.trans' h3)
  have HE3 := Lib.hid (HE.out.fr h3 fun h => h)
  have HR3 := Lib.hid (HR.out.fr h3 fun h => h)
  have hg : X.heap.size ≤ w1.heap.size := H1.out.size
  have HG := Lib.hid hg
  clear h3 h3' hg HB0 H2 H1 HC HF HE HR y1 y2 c1
  generalize w1.heap.size = g at *
  have HXS := Lib.hid hXS
  clear hXS HX
  cases out
  case false =>
    have hC3 := HC3.out
    have hB := HB.out
    have y1 := fun i => Blk.cell hC3 i
    have y2 := fun i => Blk.cell hB i
    have y3 := fun i => Blk.frozen hB i
    have z1 := hC3.lt
    have z2 := hB.lt
    clear hC3 hB
    go_wp2_with fail
    refine (Hi.out _ _ (by omega) (by omega) _).mono ?_
    rintro e5 w5 ⟨rfl, h5⟩
    dsimp only
    have hb1 := HB.out
    have hf1 := HF3.out
    have hc1 := HC3.out
    have he1 := HE3.out
    have hr1 := HR3.out
    have hR5 : Blk w5 w3.heap.size 26 #[.int .i64 1, .int .i64 (pos % 4000), (.int .u8 C2), .int .i64 1, .int .i64 (2 + seq % 63)] := by rw [← h5]; exact Blk.new _ _ _
    have hO5 : Blk w5 g 26 #[.int .i64 1, .int .i64 (pos % 4000), (.int .u8 C2), .int .i64 1, .int .i64 (2 + seq % 63)] := by rw [← h5]; exact hb1.alloc _
    have hC5 := hc1.alloc (.cells #[.int .i64 1, .int .i64 (pos % 4000), (.int .u8 C2), .int .i64 1, .int .i64 (2 + seq % 63)] 26)
    have hE5 := he1.alloc (.cells #[.int .i64 1, .int .i64 (pos % 4000), (.int .u8 C2), .int .i64 1, .int .i64 (2 + seq % 63)] 26)
    have hQ5 := hr1.alloc (.cells #[.int .i64 1, .int .i64 (pos % 4000), (.int .u8 C2), .int .i64 1, .int .i64 (2 + seq % 63)] 26)
    have hF5 := hf1.alloc (.cells #[.int .i64 1, .int .i64 (pos % 4000), (.int .u8 C2), .int .i64 1, .int .i64 (2 + seq % 63)] 26)
    rw [h5] at hC5 hE5 hQ5 hF5
    have hg4 := hb1.lt
    clear hb1 hf1 hc1 he1 hr1 h5 y1 y2 y3 z1 z2 HB HC3 HE3 HR3 HF3
    generalize w3.heap.size = s at *
    have hsg : g < s := hg4
    have HSG := Lib.hid hsg
    clear hsg hg4
    have y1 := fun i => Blk.cell hC5 i
    have y2 := fun i => Blk.cell hO5 i
    have y3 := fun i => Blk.cell hR5 i
    have y4 := fun i => Blk.frozen hR5 i
    have n1 : w.heap.size ≠ s := by have := HSG.out; have := HG.out; have := HXS.out; omega
    have n2 : g ≠ s := by have := HSG.out; omega
    have n3 : s ≠ w.heap.size := by have := HSG.out; have := HG.out; have := HXS.out; omega
    have n4 : s ≠ g := by have := HSG.out; omega
    have HN := Lib.hid (And.intro n1 n2)
    have HR5 := Lib.hid hR5
    have HO5 := Lib.hid hO5
    have HC5 := Lib.hid hC5
    have HE5 := Lib.hid hE5
    have HQ5 := Lib.hid hQ5
    have HF5 := Lib.hid hF5
    clear hR5 hO5 hC5 hE5 hQ5 hF5
    go_wp2
    have hr : Blk (w5.setCell ⟨s, 1, none⟩ (.int .i64 (pos % 90))) s 26 #[.int .i64 1, .int .i64 (pos % 90), .int .u8 C2, .int .i64 1, .int .i64 (2 + seq % 63)] := HR5.out.set_ 1 (.int .i64 (pos % 90))
    have ho := HO5.out.far (p := ⟨s, 1, none⟩) (by have := HSG.out; have := HG.out; have := HXS.out; dsimp only; omega) (.int .i64 (pos % 90))
    have hc := HC5.out.far (p := ⟨s, 1, none⟩) (by have := HSG.out; have := HG.out; have := HXS.out; dsimp only; omega) (.int .i64 (pos % 90))
    have he := HE5.out.far (p := ⟨s, 1, none⟩) (by have := HSG.out; have := HG.out; have := HXS.out; dsimp only; omega) (.int .i64 (pos % 90))
    have hq := HQ5.out.far (p := ⟨s, 1, none⟩) (by have := HSG.out; have := HG.out; have := HXS.out; dsimp only; omega) (.int .i64 (pos % 90))
    have hf := HF5.out.setCell (p := ⟨s, 1, none⟩) (.inl (by have := HSG.out; have := HG.out; have := HXS.out; dsimp only; omega)) (.int .i64 (pos % 90))
    generalize w5.setCell ⟨s, 1, none⟩ (.int .i64 (pos % 90)) = Y at *
    clear y1 y2 y3 y4
    have hSx : ∀ k, (k = w.heap.size + 1 ∨ k = w.heap.size + 1 + 1) → ¬ (k = w.heap.size ∨ k = s ∨ k = g) := by have := HSG.out; have := HG.out; have := HXS.out; omega
    have HSx := Lib.hid hSx
    clear hSx
    have q1 : ∀ (x : LaterM (fun k => k = w.heap.size + 1 ∨ k = w.heap.size + 1 + 1) Y) i, x.w.cell? ⟨w.heap.size, i, none⟩ = (#[.bool false, .bool gone, .int .i64 tag, .int .i64 pos, .int .u8 C0, .int .i64 seq, .int .i64 rev, .int .i64 way] : Array Value)[i]? := fun x => (hc.fr x.fr fun h => HSx.out _ h (.inl rfl)).cell
    have q2 : ∀ (x : LaterM (fun k => k = w.heap.size + 1 ∨ k = w.heap.size + 1 + 1) Y) i, x.w.cell? ⟨s, i, none⟩ = (#[.int .i64 1, .int .i64 (pos % 90), .int .u8 C2, .int .i64 1, .int .i64 (2 + seq % 63)] : Array Value)[i]? := fun x => (hr.fr x.fr fun h => HSx.out _ h (.inr (.inl rfl))).cell
    have q3 : ∀ (x : LaterM (fun k => k = w.heap.size + 1 ∨ k = w.heap.size + 1 + 1) Y) i, x.w.cell? ⟨g, i, none⟩ = (#[.int .i64 1, .int .i64 (pos % 4000), (.int .u8 C2), .int .i64 1, .int .i64 (2 + seq % 63)] : Array Value)[i]? := fun x => (ho.fr x.fr fun h => HSx.out _ h (.inr (.inr rfl))).cell
    have HE := Lib.hid he
    have HQ := Lib.hid hq
    have HF := Lib.hid hf
    clear hc hr ho he hq hf HR5 HO5 HC5 HE5 HQ5 HF5
    refine wp_region_M (fun k => k = w.heap.size + 1 ∨ k = w.heap.size + 1 + 1) (by kernel_rfl) ?_
    refine wpM_heads 2 0 11 (by kernel_rfl) (by kernel_rfl) ?_ (by kernel_rfl)
    simp only [List.take_succ_cons, List.take_zero, List.drop_zero]
    repeat (go_big_quiet_step (fail))
    refine wpQuiet_nil ?_
    refine wpM_call (by kernel_rfl) 2 39 rfl rfl (by kernel_rfl) rfl _ _ (.int .i64 (tag % 4097)) (by intro w; simp [go_sem]) (fun w' _ => (Hi.out _ _ (by omega) (by omega) w').mono fun e w2 h => ⟨h.1, by rw [← h.2]; exact Fr.refl _ _⟩) ?_
    simp only [List.set_cons_succ, List.set_cons_zero]
    refine wpM_heads 5 3 5 (by kernel_rfl) (by kernel_rfl) ?_ (by kernel_rfl)
    simp only [List.take_succ_cons, List.take_zero, List.drop_succ_cons, List.drop_zero]
    repeat (go_big_quiet_step (fail))
    refine wpQuiet_nil ?_
    refine wpM_call (by kernel_rfl) 8 45 rfl rfl (by kernel_rfl) rfl _ _ (.int .i64 (rev % 4095)) (by intro w; simp [go_sem]) (fun w' _ => (Hi.out _ _ (by omega) (by omega) w').mono fun e w2 h => ⟨h.1, by rw [← h.2]; exact Fr.refl _ _⟩) ?_
    simp only [List.set_cons_succ, List.set_cons_zero]
    refine wpM_heads 1 9 3 (by kernel_rfl) (by kernel_rfl) ?_ (by kernel_rfl)
    simp only [List.take_succ_cons, List.take_zero, List.drop_succ_cons, List.drop_zero]
    repeat (go_big_quiet_step (fail))
    refine wpQuiet_nil ?_
    clear q1 q2 q3
    refine wpM_step 10 rfl (by kernel_rfl) (fun w6 h6 h6' => ?_)
    have he6 := HE.out.drew.fr h6' fun h => h
    have y1 := fun i => Blk.cell he6 i
    have y2 := fun i => Blk.frozen he6 i
    have HE6 := Lib.hid (he6.fill6 (.int .i64 (tag % 4097)) (.int .i64 1) (.int .i64 (pos % 4000)) (.int .u8 C2) (.int .i64 1) (.int .i64 (2 + seq % 63)))
    have HQ6 := Lib.hid (HQ.out.drew.fr h6' fun h => h)
    have H6 := Lib.hid h6
    clear h6 h6' he6 HE HQ
    go_wp2_with fail
    refine ⟨MC.mk ?_, ?_⟩
    · iterate 6 refine Fr.setCell (S := (fun k => k = w.heap.size + 1 ∨ k = w.heap.size + 1 + 1)) ?_ (.inr (.inl rfl)) _
      exact H6.out
    have HQ7 := Lib.hid ((((((HQ6.out.far (p := ⟨w.heap.size + 1, 0, none⟩) (by dsimp only; omega) (.int .i64 (tag % 4097))).far (p := ⟨w.heap.size + 1, 1, none⟩) (by dsimp only; omega) (.int .i64 1)).far (p := ⟨w.heap.size + 1, 2, none⟩) (by dsimp only; omega) (.int .i64 (pos % 4000))).far (p := ⟨w.heap.size + 1, 3, none⟩) (by dsimp only; omega) (.int .u8 C2)).far (p := ⟨w.heap.size + 1, 4, none⟩) (by dsimp only; omega) (.int .i64 1)).far (p := ⟨w.heap.size + 1, 5, none⟩) (by dsimp only; omega) (.int .i64 (2 + seq % 63)))
    clear y1 y2 H6 HQ6
    refine wpM_step 11 rfl (by kernel_rfl) (fun w7 h7 h7' => ?_)
    have hq7 := HQ7.out.fr h7' fun h => h
    have y1 := fun i => Blk.cell hq7 i
    have y2 := fun i => Blk.frozen hq7 i
    have HQ8 := Lib.hid (hq7.fill5 (.int .i64 1) (.int .i64 (pos % 90)) (.int .u8 C2) (.int .i64 1) (.int .i64 (2 + seq % 63)))
    have HE7 := Lib.hid (HE6.out.fr h7' fun h => h)
    have H7 := Lib.hid h7
    clear h7 h7' hq7 HE6 HQ7
    go_wp2_with fail
    refine ⟨MC.mk ?_, ?_⟩
    · iterate 5 refine Fr.setCell (S := (fun k => k = w.heap.size + 1 ∨ k = w.heap.size + 1 + 1)) ?_ (.inr (.inr rfl)) _
      exact H7.out
    have HE8 := Lib.hid (((((HE7.out.far (p := ⟨w.heap.size + 1 + 1, 0, none⟩) (by dsimp only; omega) (.int .i64 1)).far (p := ⟨w.heap.size + 1 + 1, 1, none⟩) (by dsimp only; omega) (.int .i64 (pos % 90))).far (p := ⟨w.heap.size + 1 + 1, 2, none⟩) (by dsimp only; omega) (.int .u8 C2)).far (p := ⟨w.heap.size + 1 + 1, 3, none⟩) (by dsimp only; omega) (.int .i64 1)).far (p := ⟨w.heap.size + 1 + 1, 4, none⟩) (by dsimp only; omega) (.int .i64 (2 + seq % 63)))
    clear y1 y2 H7 HE7
    refine wpM_step 12 rfl (by kernel_rfl) (fun w8 h8 h8' => ?_)
    have HE9 := Lib.hid (HE8.out.fr h8' fun h => h)
    have HQ9 := Lib.hid (HQ8.out.fr h8' fun h => h)
    have H8 := Lib.hid h8
    clear h8 h8' HE8 HQ8
    go_wp2_with fail
    refine ⟨MC.mk H8.out, ?_⟩
    refine wpM_done (by kernel_rfl) (fun w9 h9 h9' => ?_)
    have hE := HE9.out.fr h9' fun h => h
    have hQ := HQ9.out.fr h9' fun h => h
    have y1 := fun i => Blk.cell hE i
    have y2 := fun i => Blk.cell hQ i
    have HF9 := Lib.hid (HF.out.trans h9 fun i hi hs => by rcases hs with hs | hs <;> omega)
    clear h9 h9' hE hQ HE9 HQ9 H8
    go_wp2
    exact bodyPost_ret (v := .tuple #[.agg #[.int .i64 (tag % 4097), .int .i64 1, .int .i64 (pos % 4000), .int .u8 C2, .int .i64 1, .int .i64 (2 + seq % 63)], .agg #[.int .i64 1, .int .i64 (pos % 90), .int .u8 C2, .int .i64 1, .int .i64 (2 + seq % 63)], .int .i64 (2 + rev % 4095)]) (by simp [results, Tryz.results29, go_sem, y1, y2]) rfl ⟨by simp, HF9.out⟩
  case true =>
    have hC3 := HC3.out
    have hB := HB.out
    have y1 := fun i => Blk.cell hC3 i
    have y2 := fun i => Blk.cell hB i
    have y3 := fun i => Blk.frozen hB i
    have z1 := hC3.lt
    have z2 := hB.lt
    clear hC3 hB
    go_wp2_with fail
    refine (Hi.out _ _ (by omega) (by omega) _).mono ?_
    rintro e5 w5 ⟨rfl, h5⟩
    dsimp only
    have hb1 : Blk ((w3.setCell ⟨g, 0, none⟩ (.int .i64 2)).setCell ⟨g, 2, none⟩ (.int .u8 0)) g 26 #[.int .i64 2, .int .i64 (pos % 4000), .int .u8 0, .int .i64 1, .int .i64 (2 + seq % 63)] := (HB.out.set_ 0 (.int .i64 2)).set_ 2 (.int .u8 0)
    have hf1 : Fr None' w ((w3.setCell ⟨g, 0, none⟩ (.int .i64 2)).setCell ⟨g, 2, none⟩ (.int .u8 0)) := (HF3.out.setCell (.inl (by have := HG.out; have := HXS.out; dsimp only; omega)) _).setCell (.inl (by have := HG.out; have := HXS.out; dsimp only; omega)) _
    have hc1 := ((HC3.out.far (p := ⟨g, 0, none⟩) (by have := HG.out; have := HXS.out; dsimp only; omega) (.int .i64 2)).far (p := ⟨g, 2, none⟩) (by have := HG.out; have := HXS.out; dsimp only; omega) (.int .u8 0))
    have he1 := ((HE3.out.far (p := ⟨g, 0, none⟩) (by have := HG.out; have := HXS.out; dsimp only; omega) (.int .i64 2)).far (p := ⟨g, 2, none⟩) (by have := HG.out; have := HXS.out; dsimp only; omega) (.int .u8 0))
    have hr1 := ((HR3.out.far (p := ⟨g, 0, none⟩) (by have := HG.out; have := HXS.out; dsimp only; omega) (.int .i64 2)).far (p := ⟨g, 2, none⟩) (by have := HG.out; have := HXS.out; dsimp only; omega) (.int .u8 0))
    generalize hw4' : (w3.setCell ⟨g, 0, none⟩ (.int .i64 2)).setCell ⟨g, 2, none⟩ (.int .u8 0) = w4 at *
    have hs4 : w4.heap.size = w3.heap.size := by rw [← hw4']; simp
    clear hw4'
    rw [← hs4] at *
    have hR5 : Blk w5 w4.heap.size 26 #[.int .i64 2, .int .i64 (pos % 4000), (.int .u8 0), .int .i64 1, .int .i64 (2 + seq % 63)] := by rw [← h5]; exact Blk.new _ _ _
    have hO5 : Blk w5 g 26 #[.int .i64 2, .int .i64 (pos % 4000), (.int .u8 0), .int .i64 1, .int .i64 (2 + seq % 63)] := by rw [← h5]; exact hb1.alloc _
    have hC5 := hc1.alloc (.cells #[.int .i64 2, .int .i64 (pos % 4000), (.int .u8 0), .int .i64 1, .int .i64 (2 + seq % 63)] 26)
    have hE5 := he1.alloc (.cells #[.int .i64 2, .int .i64 (pos % 4000), (.int .u8 0), .int .i64 1, .int .i64 (2 + seq % 63)] 26)
    have hQ5 := hr1.alloc (.cells #[.int .i64 2, .int .i64 (pos % 4000), (.int .u8 0), .int .i64 1, .int .i64 (2 + seq % 63)] 26)
    have hF5 := hf1.alloc (.cells #[.int .i64 2, .int .i64 (pos % 4000), (.int .u8 0), .int .i64 1, .int .i64 (2 + seq % 63)] 26)
    rw [h5] at hC5 hE5 hQ5 hF5
    have hg4 := hb1.lt
    clear hb1 hf1 hc1 he1 hr1 h5 y1 y2 y3 z1 z2 HB HC3 HE3 HR3 HF3 hs4
    generalize w4.heap.size = s at *
    have hsg : g < s := hg4
    have HSG := Lib.hid hsg
    clear hsg hg4
    cases gone
    case false =>
      have y1 := fun i => Blk.cell hC5 i
      have y2 := fun i => Blk.cell hO5 i
      have y3 := fun i => Blk.cell hR5 i
      have y4 := fun i => Blk.frozen hR5 i
      have n1 : w.heap.size ≠ s := by have := HSG.out; have := HG.out; have := HXS.out; omega
      have n2 : g ≠ s := by have := HSG.out; omega
      have n3 : s ≠ w.heap.size := by have := HSG.out; have := HG.out; have := HXS.out; omega
      have n4 : s ≠ g := by have := HSG.out; omega
      have HN := Lib.hid (And.intro n1 n2)
      have HR5 := Lib.hid hR5
      have HO5 := Lib.hid hO5
      have HC5 := Lib.hid hC5
      have HE5 := Lib.hid hE5
      have HQ5 := Lib.hid hQ5
      have HF5 := Lib.hid hF5
      clear hR5 hO5 hC5 hE5 hQ5 hF5
      go_wp2
      have hr : Blk (w5.setCell ⟨s, 1, none⟩ (.int .i64 (pos % 90))) s 26 #[.int .i64 2, .int .i64 (pos % 90), .int .u8 0, .int .i64 1, .int .i64 (2 + seq % 63)] := HR5.out.set_ 1 (.int .i64 (pos % 90))
      have ho := HO5.out.far (p := ⟨s, 1, none⟩) (by have := HSG.out; have := HG.out; have := HXS.out; dsimp only; omega) (.int .i64 (pos % 90))
      have hc := HC5.out.far (p := ⟨s, 1, none⟩) (by have := HSG.out; have := HG.out; have := HXS.out; dsimp only; omega) (.int .i64 (pos % 90))
      have he := HE5.out.far (p := ⟨s, 1, none⟩) (by have := HSG.out; have := HG.out; have := HXS.out; dsimp only; omega) (.int .i64 (pos % 90))
      have hq := HQ5.out.far (p := ⟨s, 1, none⟩) (by have := HSG.out; have := HG.out; have := HXS.out; dsimp only; omega) (.int .i64 (pos % 90))
      have hf := HF5.out.setCell (p := ⟨s, 1, none⟩) (.inl (by have := HSG.out; have := HG.out; have := HXS.out; dsimp only; omega)) (.int .i64 (pos % 90))
      generalize w5.setCell ⟨s, 1, none⟩ (.int .i64 (pos % 90)) = Y at *
      clear y1 y2 y3 y4
      have hSx : ∀ k, (k = w.heap.size + 1 ∨ k = w.heap.size + 1 + 1) → ¬ (k = w.heap.size ∨ k = s ∨ k = g) := by have := HSG.out; have := HG.out; have := HXS.out; omega
      have HSx := Lib.hid hSx
      clear hSx
      have q1 : ∀ (x : LaterM (fun k => k = w.heap.size + 1 ∨ k = w.heap.size + 1 + 1) Y) i, x.w.cell? ⟨w.heap.size, i, none⟩ = (#[.bool true, .bool false, .int .i64 tag, .int .i64 pos, .int .u8 C0, .int .i64 seq, .int .i64 rev, .int .i64 way] : Array Value)[i]? := fun x => (hc.fr x.fr fun h => HSx.out _ h (.inl rfl)).cell
      have q2 : ∀ (x : LaterM (fun k => k = w.heap.size + 1 ∨ k = w.heap.size + 1 + 1) Y) i, x.w.cell? ⟨s, i, none⟩ = (#[.int .i64 2, .int .i64 (pos % 90), .int .u8 0, .int .i64 1, .int .i64 (2 + seq % 63)] : Array Value)[i]? := fun x => (hr.fr x.fr fun h => HSx.out _ h (.inr (.inl rfl))).cell
      have q3 : ∀ (x : LaterM (fun k => k = w.heap.size + 1 ∨ k = w.heap.size + 1 + 1) Y) i, x.w.cell? ⟨g, i, none⟩ = (#[.int .i64 2, .int .i64 (pos % 4000), (.int .u8 0), .int .i64 1, .int .i64 (2 + seq % 63)] : Array Value)[i]? := fun x => (ho.fr x.fr fun h => HSx.out _ h (.inr (.inr rfl))).cell
      have HE := Lib.hid he
      have HQ := Lib.hid hq
      have HF := Lib.hid hf
      clear hc hr ho he hq hf HR5 HO5 HC5 HE5 HQ5 HF5
      refine wp_region_M (fun k => k = w.heap.size + 1 ∨ k = w.heap.size + 1 + 1) (by kernel_rfl) ?_
      refine wpM_heads 2 0 11 (by kernel_rfl) (by kernel_rfl) ?_ (by kernel_rfl)
      simp only [List.take_succ_cons, List.take_zero, List.drop_zero]
      repeat (go_big_quiet_step (fail))
      refine wpQuiet_nil ?_
      refine wpM_call (by kernel_rfl) 2 39 rfl rfl (by kernel_rfl) rfl _ _ (.int .i64 (tag % 4097)) (by intro w; simp [go_sem]) (fun w' _ => (Hi.out _ _ (by omega) (by omega) w').mono fun e w2 h => ⟨h.1, by rw [← h.2]; exact Fr.refl _ _⟩) ?_
      simp only [List.set_cons_succ, List.set_cons_zero]
      refine wpM_heads 5 3 5 (by kernel_rfl) (by kernel_rfl) ?_ (by kernel_rfl)
      simp only [List.take_succ_cons, List.take_zero, List.drop_succ_cons, List.drop_zero]
      repeat (go_big_quiet_step (fail))
      refine wpQuiet_nil ?_
      refine wpM_call (by kernel_rfl) 8 45 rfl rfl (by kernel_rfl) rfl _ _ (.int .i64 (rev % 4095)) (by intro w; simp [go_sem]) (fun w' _ => (Hi.out _ _ (by omega) (by omega) w').mono fun e w2 h => ⟨h.1, by rw [← h.2]; exact Fr.refl _ _⟩) ?_
      simp only [List.set_cons_succ, List.set_cons_zero]
      refine wpM_heads 1 9 3 (by kernel_rfl) (by kernel_rfl) ?_ (by kernel_rfl)
      simp only [List.take_succ_cons, List.take_zero, List.drop_succ_cons, List.drop_zero]
      repeat (go_big_quiet_step (fail))
      refine wpQuiet_nil ?_
      clear q1 q2 q3
      refine wpM_step 10 rfl (by kernel_rfl) (fun w6 h6 h6' => ?_)
      have he6 := HE.out.drew.fr h6' fun h => h
      have y1 := fun i => Blk.cell he6 i
      have y2 := fun i => Blk.frozen he6 i
      have HE6 := Lib.hid (he6.fill6 (.int .i64 (tag % 4097)) (.int .i64 2) (.int .i64 (pos % 4000)) (.int .u8 0) (.int .i64 1) (.int .i64 (2 + seq % 63)))
      have HQ6 := Lib.hid (HQ.out.drew.fr h6' fun h => h)
      have H6 := Lib.hid h6
      clear h6 h6' he6 HE HQ
      go_wp2_with fail
      refine ⟨MC.mk ?_, ?_⟩
      · iterate 6 refine Fr.setCell (S := (fun k => k = w.heap.size + 1 ∨ k = w.heap.size + 1 + 1)) ?_ (.inr (.inl rfl)) _
        exact H6.out
      have HQ7 := Lib.hid ((((((HQ6.out.far (p := ⟨w.heap.size + 1, 0, none⟩) (by dsimp only; omega) (.int .i64 (tag % 4097))).far (p := ⟨w.heap.size + 1, 1, none⟩) (by dsimp only; omega) (.int .i64 2)).far (p := ⟨w.heap.size + 1, 2, none⟩) (by dsimp only; omega) (.int .i64 (pos % 4000))).far (p := ⟨w.heap.size + 1, 3, none⟩) (by dsimp only; omega) (.int .u8 0)).far (p := ⟨w.heap.size + 1, 4, none⟩) (by dsimp only; omega) (.int .i64 1)).far (p := ⟨w.heap.size + 1, 5, none⟩) (by dsimp only; omega) (.int .i64 (2 + seq % 63)))
      clear y1 y2 H6 HQ6
      refine wpM_step 11 rfl (by kernel_rfl) (fun w7 h7 h7' => ?_)
      have hq7 := HQ7.out.fr h7' fun h => h
      have y1 := fun i => Blk.cell hq7 i
      have y2 := fun i => Blk.frozen hq7 i
      have HQ8 := Lib.hid (hq7.fill5 (.int .i64 2) (.int .i64 (pos % 90)) (.int .u8 0) (.int .i64 1) (.int .i64 (2 + seq % 63)))
      have HE7 := Lib.hid (HE6.out.fr h7' fun h => h)
      have H7 := Lib.hid h7
      clear h7 h7' hq7 HE6 HQ7
      go_wp2_with fail
      refine ⟨MC.mk ?_, ?_⟩
      · iterate 5 refine Fr.setCell (S := (fun k => k = w.heap.size + 1 ∨ k = w.heap.size + 1 + 1)) ?_ (.inr (.inr rfl)) _
        exact H7.out
      have HE8 := Lib.hid (((((HE7.out.far (p := ⟨w.heap.size + 1 + 1, 0, none⟩) (by dsimp only; omega) (.int .i64 2)).far (p := ⟨w.heap.size + 1 + 1, 1, none⟩) (by dsimp only; omega) (.int .i64 (pos % 90))).far (p := ⟨w.heap.size + 1 + 1, 2, none⟩) (by dsimp only; omega) (.int .u8 0)).far (p := ⟨w.heap.size + 1 + 1, 3, none⟩) (by dsimp only; omega) (.int .i64 1)).far (p := ⟨w.heap.size + 1 + 1, 4, none⟩) (by dsimp only; omega) (.int .i64 (2 + seq % 63)))
      clear y1 y2 H7 HE7
      refine wpM_step 12 rfl (by kernel_rfl) (fun w8 h8 h8' => ?_)
      have HE9 := Lib.hid (HE8.out.fr h8' fun h => h)
      have HQ9 := Lib.hid (HQ8.out.fr h8' fun h => h)
      have H8 := Lib.hid h8
      clear h8 h8' HE8 HQ8
      go_wp2_with fail
      refine ⟨MC.mk H8.out, ?_⟩
      refine wpM_done (by kernel_rfl) (fun w9 h9 h9' => ?_)
      have hE := HE9.out.fr h9' fun h => h
      have hQ := HQ9.out.fr h9' fun h => h
      have y1 := fun i => Blk.cell hE i
      have y2 := fun i => Blk.cell hQ i
      have HF9 := Lib.hid (HF.out.trans h9 fun i hi hs => by rcases hs with hs | hs <;> omega)
      clear h9 h9' hE hQ HE9 HQ9 H8
      go_wp2
      exact bodyPost_ret (v := .tuple #[.agg #[.int .i64 (tag % 4097), .int .i64 2, .int .i64 (pos % 4000), .int .u8 0, .int .i64 1, .int .i64 (2 + seq % 63)], .agg #[.int .i64 2, .int .i64 (pos % 90), .int .u8 0, .int .i64 1, .int .i64 (2 + seq % 63)], .int .i64 (2 + rev % 4095)]) (by simp [results, Tryz.results29, go_sem, y1, y2]) rfl ⟨by simp, HF9.out⟩
    case true =>
      have y1 := fun i => Blk.cell hC5 i
      have y2 := fun i => Blk.cell hO5 i
      have y3 := fun i => Blk.cell hR5 i
      have y4 := fun i => Blk.frozen hR5 i
      have n1 : w.heap.size ≠ s := by have := HSG.out; have := HG.out; have := HXS.out; omega
      have n2 : g ≠ s := by have := HSG.out; omega
      have n3 : s ≠ w.heap.size := by have := HSG.out; have := HG.out; have := HXS.out; omega
      have n4 : s ≠ g := by have := HSG.out; omega
      have HN := Lib.hid (And.intro n1 n2)
      have HR5 := Lib.hid hR5
      have HO5 := Lib.hid hO5
      have HC5 := Lib.hid hC5
      have HE5 := Lib.hid hE5
      have HQ5 := Lib.hid hQ5
      have HF5 := Lib.hid hF5
      clear hR5 hO5 hC5 hE5 hQ5 hF5
      go_wp2
      have hr : Blk (w5.setCell ⟨s, 1, none⟩ (.int .i64 (pos % 90))) s 26 #[.int .i64 2, .int .i64 (pos % 90), .int .u8 0, .int .i64 1, .int .i64 (2 + seq % 63)] := HR5.out.set_ 1 (.int .i64 (pos % 90))
      have ho := HO5.out.far (p := ⟨s, 1, none⟩) (by have := HSG.out; have := HG.out; have := HXS.out; dsimp only; omega) (.int .i64 (pos % 90))
      have hc := HC5.out.far (p := ⟨s, 1, none⟩) (by have := HSG.out; have := HG.out; have := HXS.out; dsimp only; omega) (.int .i64 (pos % 90))
      have he := HE5.out.far (p := ⟨s, 1, none⟩) (by have := HSG.out; have := HG.out; have := HXS.out; dsimp only; omega) (.int .i64 (pos % 90))
      have hq := HQ5.out.far (p := ⟨s, 1, none⟩) (by have := HSG.out; have := HG.out; have := HXS.out; dsimp only; omega) (.int .i64 (pos % 90))
      have hf := HF5.out.setCell (p := ⟨s, 1, none⟩) (.inl (by have := HSG.out; have := HG.out; have := HXS.out; dsimp only; omega)) (.int .i64 (pos % 90))
      have hr' := hr.fill5 (.int .i64 0) (.int .i64 0) (.int .u8 0) (.int .i64 1) (.int .i64 (2 + seq % 63))
      have ho' := (((((ho.far (p := ⟨s, 0, none⟩) (by have := HSG.out; have := HG.out; have := HXS.out; dsimp only; omega) (.int .i64 0)).far (p := ⟨s, 1, none⟩) (by have := HSG.out; have := HG.out; have := HXS.out; dsimp only; omega) (.int .i64 0)).far (p := ⟨s, 2, none⟩) (by have := HSG.out; have := HG.out; have := HXS.out; dsimp only; omega) (.int .u8 0)).far (p := ⟨s, 3, none⟩) (by have := HSG.out; have := HG.out; have := HXS.out; dsimp only; omega) (.int .i64 1)).far (p := ⟨s, 4, none⟩) (by have := HSG.out; have := HG.out; have := HXS.out; dsimp only; omega) (.int .i64 (2 + seq % 63)))
      have hc' := (((((hc.far (p := ⟨s, 0, none⟩) (by have := HSG.out; have := HG.out; have := HXS.out; dsimp only; omega) (.int .i64 0)).far (p := ⟨s, 1, none⟩) (by have := HSG.out; have := HG.out; have := HXS.out; dsimp only; omega) (.int .i64 0)).far (p := ⟨s, 2, none⟩) (by have := HSG.out; have := HG.out; have := HXS.out; dsimp only; omega) (.int .u8 0)).far (p := ⟨s, 3, none⟩) (by have := HSG.out; have := HG.out; have := HXS.out; dsimp only; omega) (.int .i64 1)).far (p := ⟨s, 4, none⟩) (by have := HSG.out; have := HG.out; have := HXS.out; dsimp only; omega) (.int .i64 (2 + seq % 63)))
      have he' := (((((he.far (p := ⟨s, 0, none⟩) (by have := HSG.out; have := HG.out; have := HXS.out; dsimp only; omega) (.int .i64 0)).far (p := ⟨s, 1, none⟩) (by have := HSG.out; have := HG.out; have := HXS.out; dsimp only; omega) (.int .i64 0)).far (p := ⟨s, 2, none⟩) (by have := HSG.out; have := HG.out; have := HXS.out; dsimp only; omega) (.int .u8 0)).far (p := ⟨s, 3, none⟩) (by have := HSG.out; have := HG.out; have := HXS.out; dsimp only; omega) (.int .i64 1)).far (p := ⟨s, 4, none⟩) (by have := HSG.out; have := HG.out; have := HXS.out; dsimp only; omega) (.int .i64 (2 + seq % 63)))
      have hq' := (((((hq.far (p := ⟨s, 0, none⟩) (by have := HSG.out; have := HG.out; have := HXS.out; dsimp only; omega) (.int .i64 0)).far (p := ⟨s, 1, none⟩) (by have := HSG.out; have := HG.out; have := HXS.out; dsimp only; omega) (.int .i64 0)).far (p := ⟨s, 2, none⟩) (by have := HSG.out; have := HG.out; have := HXS.out; dsimp only; omega) (.int .u8 0)).far (p := ⟨s, 3, none⟩) (by have := HSG.out; have := HG.out; have := HXS.out; dsimp only; omega) (.int .i64 1)).far (p := ⟨s, 4, none⟩) (by have := HSG.out; have := HG.out; have := HXS.out; dsimp only; omega) (.int .i64 (2 + seq % 63)))
      have hf' := (((((hf.setCell (p := ⟨s, 0, none⟩) (.inl (by have := HSG.out; have := HG.out; have := HXS.out; dsimp only; omega)) (.int .i64 0)).setCell (p := ⟨s, 1, none⟩) (.inl (by have := HSG.out; have := HG.out; have := HXS.out; dsimp only; omega)) (.int .i64 0)).setCell (p := ⟨s, 2, none⟩) (.inl (by have := HSG.out; have := HG.out; have := HXS.out; dsimp only; omega)) (.int .u8 0)).setCell (p := ⟨s, 3, none⟩) (.inl (by have := HSG.out; have := HG.out; have := HXS.out; dsimp only; omega)) (.int .i64 1)).setCell (p := ⟨s, 4, none⟩) (.inl (by have := HSG.out; have := HG.out; have := HXS.out; dsimp only; omega)) (.int .i64 (2 + seq % 63)))
      clear hr ho hc he hq hf
      have hr := hr'
      clear hr'
      have ho := ho'
      clear ho'
      have hc := hc'
      clear hc'
      have he := he'
      clear he'
      have hq := hq'
      clear hq'
      have hf := hf'
      clear hf'
      generalize (((((w5.setCell ⟨s, 1, none⟩ (.int .i64 (pos % 90))).setCell ⟨s, 0, none⟩ (.int .i64 0)).setCell ⟨s, 1, none⟩ (.int .i64 0)).setCell ⟨s, 2, none⟩ (.int .u8 0)).setCell ⟨s, 3, none⟩ (.int .i64 1)).setCell ⟨s, 4, none⟩ (.int .i64 (2 + seq % 63)) = Y at *
      clear y1 y2 y3 y4
      have hSx : ∀ k, (k = w.heap.size + 1 ∨ k = w.heap.size + 1 + 1) → ¬ (k = w.heap.size ∨ k = s ∨ k = g) := by have := HSG.out; have := HG.out; have := HXS.out; omega
      have HSx := Lib.hid hSx
      clear hSx
      have q1 : ∀ (x : LaterM (fun k => k = w.heap.size + 1 ∨ k = w.heap.size + 1 + 1) Y) i, x.w.cell? ⟨w.heap.size, i, none⟩ = (#[.bool true, .bool true, .int .i64 tag, .int .i64 pos, .int .u8 C0, .int .i64 seq, .int .i64 rev, .int .i64 way] : Array Value)[i]? := fun x => (hc.fr x.fr fun h => HSx.out _ h (.inl rfl)).cell
      have q2 : ∀ (x : LaterM (fun k => k = w.heap.size + 1 ∨ k = w.heap.size + 1 + 1) Y) i, x.w.cell? ⟨s, i, none⟩ = (#[.int .i64 0, .int .i64 0, .int .u8 0, .int .i64 1, .int .i64 (2 + seq % 63)] : Array Value)[i]? := fun x => (hr.fr x.fr fun h => HSx.out _ h (.inr (.inl rfl))).cell
      have q3 : ∀ (x : LaterM (fun k => k = w.heap.size + 1 ∨ k = w.heap.size + 1 + 1) Y) i, x.w.cell? ⟨g, i, none⟩ = (#[.int .i64 2, .int .i64 (pos % 4000), (.int .u8 0), .int .i64 1, .int .i64 (2 + seq % 63)] : Array Value)[i]? := fun x => (ho.fr x.fr fun h => HSx.out _ h (.inr (.inr rfl))).cell
      have HE := Lib.hid he
      have HQ := Lib.hid hq
      have HF := Lib.hid hf
      clear hc hr ho he hq hf HR5 HO5 HC5 HE5 HQ5 HF5
      refine wp_region_M (fun k => k = w.heap.size + 1 ∨ k = w.heap.size + 1 + 1) (by kernel_rfl) ?_
      refine wpM_heads 2 0 11 (by kernel_rfl) (by kernel_rfl) ?_ (by kernel_rfl)
      simp only [List.take_succ_cons, List.take_zero, List.drop_zero]
      repeat (go_big_quiet_step (fail))
      refine wpQuiet_nil ?_
      refine wpM_call (by kernel_rfl) 2 39 rfl rfl (by kernel_rfl) rfl _ _ (.int .i64 (tag % 4097)) (by intro w; simp [go_sem]) (fun w' _ => (Hi.out _ _ (by omega) (by omega) w').mono fun e w2 h => ⟨h.1, by rw [← h.2]; exact Fr.refl _ _⟩) ?_
      simp only [List.set_cons_succ, List.set_cons_zero]
      refine wpM_heads 5 3 5 (by kernel_rfl) (by kernel_rfl) ?_ (by kernel_rfl)
      simp only [List.take_succ_cons, List.take_zero, List.drop_succ_cons, List.drop_zero]
      repeat (go_big_quiet_step (fail))
      refine wpQuiet_nil ?_
      refine wpM_call (by kernel_rfl) 8 45 rfl rfl (by kernel_rfl) rfl _ _ (.int .i64 (rev % 4095)) (by intro w; simp [go_sem]) (fun w' _ => (Hi.out _ _ (by omega) (by omega) w').mono fun e w2 h => ⟨h.1, by rw [← h.2]; exact Fr.refl _ _⟩) ?_
      simp only [List.set_cons_succ, List.set_cons_zero]
      refine wpM_heads 1 9 3 (by kernel_rfl) (by kernel_rfl) ?_ (by kernel_rfl)
      simp only [List.take_succ_cons, List.take_zero, List.drop_succ_cons, List.drop_zero]
      repeat (go_big_quiet_step (fail))
      refine wpQuiet_nil ?_
      clear q1 q2 q3
      refine wpM_step 10 rfl (by kernel_rfl) (fun w6 h6 h6' => ?_)
      have he6 := HE.out.drew.fr h6' fun h => h
      have y1 := fun i => Blk.cell he6 i
      have y2 := fun i => Blk.frozen he6 i
      have HE6 := Lib.hid (he6.fill6 (.int .i64 (tag % 4097)) (.int .i64 2) (.int .i64 (pos % 4000)) (.int .u8 0) (.int .i64 1) (.int .i64 (2 + seq % 63)))
      have HQ6 := Lib.hid (HQ.out.drew.fr h6' fun h => h)
      have H6 := Lib.hid h6
      clear h6 h6' he6 HE HQ
      go_wp2_with fail
      refine ⟨MC.mk ?_, ?_⟩
      · iterate 6 refine Fr.setCell (S := (fun k => k = w.heap.size + 1 ∨ k = w.heap.size + 1 + 1)) ?_ (.inr (.inl rfl)) _
        exact H6.out
      have HQ7 := Lib.hid ((((((HQ6.out.far (p := ⟨w.heap.size + 1, 0, none⟩) (by dsimp only; omega) (.int .i64 (tag % 4097))).far (p := ⟨w.heap.size + 1, 1, none⟩) (by dsimp only; omega) (.int .i64 2)).far (p := ⟨w.heap.size + 1, 2, none⟩) (by dsimp only; omega) (.int .i64 (pos % 4000))).far (p := ⟨w.heap.size + 1, 3, none⟩) (by dsimp only; omega) (.int .u8 0)).far (p := ⟨w.heap.size + 1, 4, none⟩) (by dsimp only; omega) (.int .i64 1)).far (p := ⟨w.heap.size + 1, 5, none⟩) (by dsimp only; omega) (.int .i64 (2 + seq % 63)))
      clear y1 y2 H6 HQ6
      refine wpM_step 11 rfl (by kernel_rfl) (fun w7 h7 h7' => ?_)
      have hq7 := HQ7.out.fr h7' fun h => h
      have y1 := fun i => Blk.cell hq7 i
      have y2 := fun i => Blk.frozen hq7 i
      have HQ8 := Lib.hid (hq7.fill5 (.int .i64 0) (.int .i64 0) (.int .u8 0) (.int .i64 1) (.int .i64 (2 + seq % 63)))
      have HE7 := Lib.hid (HE6.out.fr h7' fun h => h)
      have H7 := Lib.hid h7
      clear h7 h7' hq7 HE6 HQ7
      go_wp2_with fail
      refine ⟨MC.mk ?_, ?_⟩
      · iterate 5 refine Fr.setCell (S := (fun k => k = w.heap.size + 1 ∨ k = w.heap.size + 1 + 1)) ?_ (.inr (.inr rfl)) _
        exact H7.out
      have HE8 := Lib.hid (((((HE7.out.far (p := ⟨w.heap.size + 1 + 1, 0, none⟩) (by dsimp only; omega) (.int .i64 0)).far (p := ⟨w.heap.size + 1 + 1, 1, none⟩) (by dsimp only; omega) (.int .i64 0)).far (p := ⟨w.heap.size + 1 + 1, 2, none⟩) (by dsimp only; omega) (.int .u8 0)).far (p := ⟨w.heap.size + 1 + 1, 3, none⟩) (by dsimp only; omega) (.int .i64 1)).far (p := ⟨w.heap.size + 1 + 1, 4, none⟩) (by dsimp only; omega) (.int .i64 (2 + seq % 63)))
      clear y1 y2 H7 HE7
      refine wpM_step 12 rfl (by kernel_rfl) (fun w8 h8 h8' => ?_)
      have HE9 := Lib.hid (HE8.out.fr h8' fun h => h)
      have HQ9 := Lib.hid (HQ8.out.fr h8' fun h => h)
      have H8 := Lib.hid h8
      clear h8 h8' HE8 HQ8
      go_wp2_with fail
      refine ⟨MC.mk H8.out, ?_⟩
      refine wpM_done (by kernel_rfl) (fun w9 h9 h9' => ?_)
      have hE := HE9.out.fr h9' fun h => h
      have hQ := HQ9.out.fr h9' fun h => h
      have y1 := fun i => Blk.cell hE i
      have y2 := fun i => Blk.cell hQ i
      have HF9 := Lib.hid (HF.out.trans h9 fun i hi hs => by rcases hs with hs | hs <;> omega)
      clear h9 h9' hE hQ HE9 HQ9 H8
      go_wp2
      exact bodyPost_ret (v := .tuple #[.agg #[.int .i64 (tag % 4097), .int .i64 2, .int .i64 (pos % 4000), .int .u8 0, .int .i64 1, .int .i64 (2 + seq % 63)], .agg #[.int .i64 0, .int .i64 0, .int .u8 0, .int .i64 1, .int .i64 (2 + seq % 63)], .int .i64 (2 + rev % 4095)]) (by simp [results, Tryz.results29, go_sem, y1, y2]) rfl ⟨by simp, HF9.out⟩
end Go.Proofs.YtodkhoclbhdihaaGreatDoor
