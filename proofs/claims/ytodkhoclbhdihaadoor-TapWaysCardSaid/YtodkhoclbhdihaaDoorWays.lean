/-
  TapWays, walked: every input gives true.
-/
import Derived.Test.YtodkhoclbhdihaaDoorWaysP
import Derived.Test.YtodkhoclbhdihaaDoorOrn
namespace Go.Proofs.YtodkhoclbhdihaaDoor
open Go.RowKit

set_option maxHeartbeats 32000000 in
theorem ways_any (B : Nat) (n : Int) (m : GMsg) (fr to_ : Int) (w : World) (hG : Glb B w) (hfr : -9223372036854775808 ≤ fr ∧ fr ≤ 9223372036854775807) (hto : -9223372036854775808 ≤ to_ ∧ to_ ≤ 9223372036854775807) :
    Calls Tryd.prog 3 #[.int .i64 n, msgV m, .agg #[.int .i64 fr, .int .i64 to_]] w fun ev w' => ev = .returned (.bool true) ∧ Fr None' w w' := by
  have Hi := Lib.hid into_any
  have HG := Lib.hid hG
  have e1 : IntKind.i64.wrap (1 + n % 64) = 1 + n % 64 := IntWalk.i64_in _ (by omega)
  obtain ⟨N, hN⟩ : ∃ N, N = 1 + n % 64 := ⟨_, rfl⟩
  have hN1 : 1 ≤ N ∧ N ≤ 64 := by omega
  have HN1 := Lib.hid hN1
  have Hb := Lib.hid fun w (h : Glb B w) => begun_any B N w h hN1.1 hN1.2
  have Hs := Lib.hid fun w (h : Glb B w) => sent_any B fr to_ m w h
  have Hlaw := Lib.hid fun xs (h : encF m = .ok xs) => ways_law N m fr to_ xs hN1.1 h
  have Hmk := Lib.hid fun xs (h : encF m = .ok xs) => (enc_ok_inv h)
  unfold SentPost at Hs
  cases hen : encF m with
  | error x =>
    simp only [hen] at Hs
    obtain ⟨k, ep, cl, hv, fi, nu, ac, rv, tg, ⟨ok, op, oc, ol, os⟩⟩ := m
    clear Hlaw Hmk hen hG
    unfold msgV msgCells opCells dgV at *
    simp only [List.cons_append, List.nil_append] at *
    obtain ⟨X, hX⟩ : ∃ X : World, X = (w.alloc (.cells #[.int .i64 k, .int .i64 ep, .int .i64 cl, .int .i64 hv, .int .i64 fi, .int .i64 nu, .int .i64 ac, .int .i64 rv, .int .i64 tg, .int .i64 ok, .int .i64 op, .int .u8 (oc.toNat : Int), .int .i64 ol, .int .i64 os] 25)).alloc (.cells #[.int .i64 fr, .int .i64 to_] 27) := ⟨_, rfl⟩
    have HX := Lib.hid hX
    have hXf : Fr None' w X := by rw [hX]; exact ((Fr.refl _ _).alloc _).alloc _
    have hM : Blk X w.heap.size 25 #[.int .i64 k, .int .i64 ep, .int .i64 cl, .int .i64 hv, .int .i64 fi, .int .i64 nu, .int .i64 ac, .int .i64 rv, .int .i64 tg, .int .i64 ok, .int .i64 op, .int .u8 (oc.toNat : Int), .int .i64 ol, .int .i64 os] := by rw [hX]; exact (Blk.new _ _ _).alloc _
    have hW : Blk X (w.heap.size + 1) 27 #[.int .i64 fr, .int .i64 to_] := by rw [hX]; have := Blk.new (w.alloc (.cells #[.int .i64 k, .int .i64 ep, .int .i64 cl, .int .i64 hv, .int .i64 fi, .int .i64 nu, .int .i64 ac, .int .i64 rv, .int .i64 tg, .int .i64 ok, .int .i64 op, .int .u8 (oc.toNat : Int), .int .i64 ol, .int .i64 os] 25)) 27 #[.int .i64 fr, .int .i64 to_]; rw [show (w.alloc (.cells #[.int .i64 k, .int .i64 ep, .int .i64 cl, .int .i64 hv, .int .i64 fi, .int .i64 nu, .int .i64 ac, .int .i64 rv, .int .i64 tg, .int .i64 ok, .int .i64 op, .int .u8 (oc.toNat : Int), .int .i64 ol, .int .i64 os] 25)).heap.size = w.heap.size + 1 by simp] at this; exact this
    clear hX
    have HM := Lib.hid hM
    have HF := Lib.hid hXf
    have y1 : ∀ i, X.cell? ⟨w.heap.size, i, none⟩ = (#[.int .i64 k, .int .i64 ep, .int .i64 cl, .int .i64 hv, .int .i64 fi, .int .i64 nu, .int .i64 ac, .int .i64 rv, .int .i64 tg, .int .i64 ok, .int .i64 op, .int .u8 (oc.toNat : Int), .int .i64 ol, .int .i64 os] : Array Value)[i]? := fun i => Blk.cell hM i
    have y2 : ∀ i, X.cell? ⟨w.heap.size + 1, i, none⟩ = (#[.int .i64 fr, .int .i64 to_] : Array Value)[i]? := fun i => Blk.cell hW i
    clear hM hW hXf
    go_enter Tryd.func3, Tryd.ntmps3
    go_wp2_with (go_at_call 4; refine (Hi.out _ _).mono ?_; rintro e0 w0 ⟨rfl, rfl⟩)
    rw [← HX.out, ← hN]
    go_quiet (fail)
    clear y1 y2 e1 hN
    have HM1 := Lib.hid (HM.out.drewN nq)
    have HF1 := Lib.hid (HF.out.drewN nq)
    clear HM HF HX
    generalize X.drewN nq = X1 at *
    go_wp2_with fail
    refine (Hb.out _ (HG.out.fr HF1.out fun _ h => h.elim)).mono ?_
    rintro e1 w2 ⟨a, r, v, e, rfl, hT, hlo, hf⟩
    dsimp only
    have HT2 := Lib.hid hT
    have HLo := Lib.hid hlo
    have hM2 := HM1.out.fr hf fun h => h
    have HM2 := Lib.hid hM2
    have HF2 := Lib.hid (HF1.out.trans' hf)
    have HL1 := Lib.hid HM1.out.lt
    have y1 : ∀ i, w2.cell? ⟨w.heap.size, i, none⟩ = (#[.int .i64 k, .int .i64 ep, .int .i64 cl, .int .i64 hv, .int .i64 fi, .int .i64 nu, .int .i64 ac, .int .i64 rv, .int .i64 tg, .int .i64 ok, .int .i64 op, .int .u8 (oc.toNat : Int), .int .i64 ol, .int .i64 os] : Array Value)[i]? := fun i => Blk.cell hM2 i
    clear hT hlo hM2 hf HM1 HF1
    go_wp2_with fail
    refine (Hs.out _ (HG.out.fr HF2.out fun _ h => h.elim)).mono ?_
    rintro e2 w3 ⟨rfl, hf⟩
    dsimp only
    have HF3 := Lib.hid (HF2.out.trans' hf)
    clear hf y1
    go_wp2
    go_ret
    exact ⟨rfl, HF3.out.alloc _⟩
  | ok xs =>
    have hlaw := Hlaw.out xs hen
    have Hkk := Lib.hid (Hmk.out xs hen)
    have Hee := Lib.hid (enc_epoch hen)
    simp only [hen] at Hs
    obtain ⟨k, ep, cl, hv, fi, nu, ac, rv, tg, ⟨ok, op, oc, ol, os⟩⟩ := m
    clear Hlaw Hmk hen hG
    obtain ⟨law1, law2⟩ := hlaw
    have Hl1 := Lib.hid law1
    have Hl2 := Lib.hid law2
    clear law1 law2
    unfold msgV msgCells opCells dgV at *
    simp only [List.cons_append, List.nil_append] at *
    obtain ⟨X, hX⟩ : ∃ X : World, X = (w.alloc (.cells #[.int .i64 k, .int .i64 ep, .int .i64 cl, .int .i64 hv, .int .i64 fi, .int .i64 nu, .int .i64 ac, .int .i64 rv, .int .i64 tg, .int .i64 ok, .int .i64 op, .int .u8 (oc.toNat : Int), .int .i64 ol, .int .i64 os] 25)).alloc (.cells #[.int .i64 fr, .int .i64 to_] 27) := ⟨_, rfl⟩
    have HX := Lib.hid hX
    have hXf : Fr None' w X := by rw [hX]; exact ((Fr.refl _ _).alloc _).alloc _
    have hM : Blk X w.heap.size 25 #[.int .i64 k, .int .i64 ep, .int .i64 cl, .int .i64 hv, .int .i64 fi, .int .i64 nu, .int .i64 ac, .int .i64 rv, .int .i64 tg, .int .i64 ok, .int .i64 op, .int .u8 (oc.toNat : Int), .int .i64 ol, .int .i64 os] := by rw [hX]; exact (Blk.new _ _ _).alloc _
    have hW : Blk X (w.heap.size + 1) 27 #[.int .i64 fr, .int .i64 to_] := by rw [hX]; have := Blk.new (w.alloc (.cells #[.int .i64 k, .int .i64 ep, .int .i64 cl, .int .i64 hv, .int .i64 fi, .int .i64 nu, .int .i64 ac, .int .i64 rv, .int .i64 tg, .int .i64 ok, .int .i64 op, .int .u8 (oc.toNat : Int), .int .i64 ol, .int .i64 os] 25)) 27 #[.int .i64 fr, .int .i64 to_]; rw [show (w.alloc (.cells #[.int .i64 k, .int .i64 ep, .int .i64 cl, .int .i64 hv, .int .i64 fi, .int .i64 nu, .int .i64 ac, .int .i64 rv, .int .i64 tg, .int .i64 ok, .int .i64 op, .int .u8 (oc.toNat : Int), .int .i64 ol, .int .i64 os] 25)).heap.size = w.heap.size + 1 by simp] at this; exact this
    clear hX
    have HM := Lib.hid hM
    have HF := Lib.hid hXf
    have y1 : ∀ i, X.cell? ⟨w.heap.size, i, none⟩ = (#[.int .i64 k, .int .i64 ep, .int .i64 cl, .int .i64 hv, .int .i64 fi, .int .i64 nu, .int .i64 ac, .int .i64 rv, .int .i64 tg, .int .i64 ok, .int .i64 op, .int .u8 (oc.toNat : Int), .int .i64 ol, .int .i64 os] : Array Value)[i]? := fun i => Blk.cell hM i
    have y2 : ∀ i, X.cell? ⟨w.heap.size + 1, i, none⟩ = (#[.int .i64 fr, .int .i64 to_] : Array Value)[i]? := fun i => Blk.cell hW i
    clear hM hW hXf
    go_enter Tryd.func3, Tryd.ntmps3
    go_wp2_with (go_at_call 4; refine (Hi.out _ _).mono ?_; rintro e0 w0 ⟨rfl, rfl⟩)
    rw [← HX.out, ← hN]
    go_quiet (fail)
    clear y1 y2 e1 hN
    have HM1 := Lib.hid (HM.out.drewN nq)
    have HF1 := Lib.hid (HF.out.drewN nq)
    clear HM HF HX
    generalize X.drewN nq = X1 at *
    go_wp2_with fail
    refine (Hb.out _ (HG.out.fr HF1.out fun _ h => h.elim)).mono ?_
    rintro e1 w2 ⟨a, r, v, e, rfl, hT, hlo, hf⟩
    dsimp only
    have HT2 := Lib.hid hT
    have HLo := Lib.hid hlo
    have hM2 := HM1.out.fr hf fun h => h
    have HM2 := Lib.hid hM2
    have HF2 := Lib.hid (HF1.out.trans' hf)
    have HL1 := Lib.hid HM1.out.lt
    have y1 : ∀ i, w2.cell? ⟨w.heap.size, i, none⟩ = (#[.int .i64 k, .int .i64 ep, .int .i64 cl, .int .i64 hv, .int .i64 fi, .int .i64 nu, .int .i64 ac, .int .i64 rv, .int .i64 tg, .int .i64 ok, .int .i64 op, .int .u8 (oc.toNat : Int), .int .i64 ol, .int .i64 os] : Array Value)[i]? := fun i => Blk.cell hM2 i
    clear hT hlo hM2 hf HM1 HF1
    go_wp2_with fail
    refine (Hs.out _ (HG.out.fr HF2.out fun _ h => h.elim)).mono ?_
    rintro e2 w3 ⟨g, rfl, hg, hb, hf⟩
    dsimp only
    have HF3 := Lib.hid (HF2.out.trans' hf)
    have HT3 := Lib.hid (HT2.out.frn hf)
    have HM3 := Lib.hid (HM2.out.fr hf fun h => h)
    have HRB := Lib.hid (show RB w3 (some ⟨g, 0, none⟩) xs.length xs from hb.reads0 (by simp))
    clear hf hg hb y1 HM2 HT2
    have hx : Fr None' w3 (w3.alloc (.cells #[.int .i64 fr, .int .i64 to_, .slice (some ⟨g, 0, none⟩) xs.length xs.length, .bool false] 33)) := (Fr.refl _ _).alloc _
    have Hsn := Lib.hid (seen_any B a r v e (T1 N) fr to_ (some ⟨g, 0, none⟩) xs.length xs.length xs false _ ((HG.out.fr HF3.out fun _ h => h.elim).fr hx fun _ h => h.elim) (fun k hk => by have := HLo.out k hk; have := HL1.out; have := HG.out.le; omega) (HT3.out.frn hx) (HRB.out.frn hx) (by have h := Hkk.out.2.2.2; have h2 := lay_len (flat ⟨k, ep, cl, hv, fi, nu, ac, rv, tg, ⟨ok, op, oc, ol, os⟩⟩) (shape k.toNat) (fun f hf => (shape_in _ f hf).2); have h3 := lenF_le20 k.toNat; rw [h]; unfold sealed sum4; rw [List.length_append]; simp only [List.length_cons, List.length_nil]; omega))
    have HT4 := Lib.hid (HT3.out.frn hx)
    unfold dgV at Hsn
    go_wp2_with fail
    refine Hsn.out.mono ?_
    rintro e3 w4 ⟨rfl, hT4, hf4⟩
    dsimp only
    have HI4 := Lib.hid HLo.out
    have hM4 := (HM3.out.alloc (.cells #[.int .i64 fr, .int .i64 to_, .slice (some ⟨g, 0, none⟩) xs.length xs.length, .bool false] 33)).fr hf4 (fun h => by have := HLo.out _ h; have := HL1.out; omega)
    have HF4 := Lib.hid ((HF3.out.alloc _).trans hf4 fun i hi hs => by have := HLo.out i hs; have := HL1.out; omega)
    have HM4 := Lib.hid hM4
    have HT5 := Lib.hid hT4
    have y4 : ∀ i, w4.cell? ⟨w.heap.size, i, none⟩ = (#[.int .i64 k, .int .i64 ep, .int .i64 cl, .int .i64 hv, .int .i64 fi, .int .i64 nu, .int .i64 ac, .int .i64 rv, .int .i64 tg, .int .i64 ok, .int .i64 op, .int .u8 (oc.toNat : Int), .int .i64 ol, .int .i64 os] : Array Value)[i]? := fun i => Blk.cell hM4 i
    clear hM4 hT4 hf4 Hsn HT4 HT3 HM3 HRB hx HF3 Hs Hb Hi Hkk HLo HL1 HI4
    generalize seeF (T1 N) fr to_ xs = sf at *
    obtain ⟨⟨cd, pl⟩, T4⟩ := sf
    dsimp only at *
    have He := Lib.hid fun w (h : TapAt w a r v e T4) => epoch_any a r v e T4 w h
    obtain ⟨te, hte⟩ : ∃ te, te = T4.epoch := ⟨_, rfl⟩
    rw [← hte] at He Hl1 Hl2
    clear hte
    unfold mineB at Hl2
    dsimp only at Hl2
    have HR := Lib.hid (And.intro hfr (And.intro hto hN1))
    clear hfr hto hN1
    by_cases a1 : fr = 0
    · have d_a1 : (fr == 0) = true := by simpa using a1
      by_cases a2 : 1 ≤ to_
      · have d_a2 : (decide (1 ≤ to_)) = true := by simpa using a2
        have d_b1 : (to_ == 0) = false := by simp; omega
        by_cases a3 : to_ ≤ N
        · have d_a3 : (decide (to_ ≤ N)) = true := by simpa using a3
          have eW : IntKind.i64.wrap (fr + to_) = fr + to_ := IntWalk.i64_in _ (by have := HR.out; omega)
          by_cases k4 : k = 4
          · have q4 : (k == 4) = true := by simpa using k4
            by_cases hc : cl = fr + to_
            · have qc : (cl != fr + to_) = false := by simp [hc]
              rcases (Hl2.out (by omega)).2 (by omega) with ⟨h1, h2, h3⟩ | ⟨h1, h2⟩
              · exfalso; omega
              · have qA : (cd == 280) = false := by simp [h1]
                have qB : (cd == 0) = true := by simp [h1]
                have qE : (te == ep) = true := by simp [h2]
                clear h1 h2
                have H_a1 := Lib.hid a1
                have H_a2 := Lib.hid a2
                have H_a3 := Lib.hid a3
                have H_k4 := Lib.hid k4
                have H_hc := Lib.hid hc
                clear a1 a2 a3 k4 hc
                go_wp2
                have z1 : ∀ (x : Later w4) i, x.w.cell? ⟨w.heap.size, i, none⟩ = (#[.int .i64 k, .int .i64 ep, .int .i64 cl, .int .i64 hv, .int .i64 fi, .int .i64 nu, .int .i64 ac, .int .i64 rv, .int .i64 tg, .int .i64 ok, .int .i64 op, .int .u8 (oc.toNat : Int), .int .i64 ol, .int .i64 os] : Array Value)[i]? := fun x i => Blk.cell (HM4.out.fr x.fr fun h => h) i
                refine wp_region_L (by kernel_rfl) ?_
                refine wpL_heads 4 0 6 (by kernel_rfl) (by kernel_rfl) ?_ (by kernel_rfl)
                simp only [List.take_succ_cons, List.take_zero, List.drop_zero]
                repeat (go_big_quiet_step (fail))
                refine wpQuiet_nil ?_
                refine wpL_callG (by kernel_rfl) 4 125 rfl rfl (by kernel_rfl) (by rfl) _ _ (.int .i64 te) (by intro w; simp [go_sem]) (fun w' hw' => (He.out w' (HT5.out.frn hw')).mono fun e w2 h => ⟨h.1, by rw [← h.2]; exact Fr.refl _ _⟩) ?_
                simp only [List.set_cons_succ, List.set_cons_zero]
                refine wpL_heads 5 5 0 (by kernel_rfl) (by kernel_rfl) ?_ (by kernel_rfl)
                simp only [List.take_succ_cons, List.take_zero, List.drop_succ_cons, List.drop_zero]
                repeat (go_big_quiet_step (fail))
                refine wpQuiet_nil ?_
                clear z1
                refine wpL_done (by kernel_rfl) (fun w9 hc hc' => ?_)
                have HF9 := Lib.hid (HF4.out.trans' hc)
                clear hc hc'
                go_wp2
                go_ret
                exact ⟨rfl, HF9.out⟩
            · have qc : (cl != fr + to_) = true := by simp [hc]
              have hA : cd = 281 ∧ te = 1 := (Hl2.out (by omega)).1 (by omega)
              have qA : (cd == 281) = true := by simp [hA.1]
              have qE : (te == 1) = true := by simp [hA.2]
              clear hA
              have H_a1 := Lib.hid a1
              have H_a2 := Lib.hid a2
              have H_a3 := Lib.hid a3
              have H_k4 := Lib.hid k4
              have H_hc := Lib.hid hc
              clear a1 a2 a3 k4 hc
              go_wp2_with (go_at_call 8; refine (He.out _ HT5.out).mono ?_; rintro e5 w5 ⟨rfl, rfl⟩)
              go_ret
              exact ⟨rfl, HF4.out⟩
          have q4 : (k == 4) = false := by simpa using k4
          by_cases k5 : k = 5
          · have q5 : (k == 5) = true := by simpa using k5
            by_cases hc : cl = fr + to_
            · have qc : (cl != fr + to_) = false := by simp [hc]
              rcases (Hl2.out (by omega)).2 (by omega) with ⟨h1, h2, h3⟩ | ⟨h1, h2⟩
              · have qA : (cd == 280) = true := by simp [h1]
                have qE : (te == 1) = true := by simp [h3]
                clear h1 h2 h3
                have H_a1 := Lib.hid a1
                have H_a2 := Lib.hid a2
                have H_a3 := Lib.hid a3
                have H_k4 := Lib.hid k4
                have H_k5 := Lib.hid k5
                have H_hc := Lib.hid hc
                clear a1 a2 a3 k4 k5 hc
                go_wp2_with (go_at_call 8; refine (He.out _ HT5.out).mono ?_; rintro e5 w5 ⟨rfl, rfl⟩)
                go_ret
                exact ⟨rfl, HF4.out⟩
              · have qA : (cd == 280) = false := by simp [h1]
                have qB : (cd == 0) = true := by simp [h1]
                have qE : (te == ep) = true := by simp [h2]
                clear h1 h2
                have H_a1 := Lib.hid a1
                have H_a2 := Lib.hid a2
                have H_a3 := Lib.hid a3
                have H_k4 := Lib.hid k4
                have H_k5 := Lib.hid k5
                have H_hc := Lib.hid hc
                clear a1 a2 a3 k4 k5 hc
                go_wp2
                have z1 : ∀ (x : Later w4) i, x.w.cell? ⟨w.heap.size, i, none⟩ = (#[.int .i64 k, .int .i64 ep, .int .i64 cl, .int .i64 hv, .int .i64 fi, .int .i64 nu, .int .i64 ac, .int .i64 rv, .int .i64 tg, .int .i64 ok, .int .i64 op, .int .u8 (oc.toNat : Int), .int .i64 ol, .int .i64 os] : Array Value)[i]? := fun x i => Blk.cell (HM4.out.fr x.fr fun h => h) i
                refine wp_region_L (by kernel_rfl) ?_
                refine wpL_heads 4 0 6 (by kernel_rfl) (by kernel_rfl) ?_ (by kernel_rfl)
                simp only [List.take_succ_cons, List.take_zero, List.drop_zero]
                repeat (go_big_quiet_step (fail))
                refine wpQuiet_nil ?_
                refine wpL_callG (by kernel_rfl) 4 125 rfl rfl (by kernel_rfl) (by rfl) _ _ (.int .i64 te) (by intro w; simp [go_sem]) (fun w' hw' => (He.out w' (HT5.out.frn hw')).mono fun e w2 h => ⟨h.1, by rw [← h.2]; exact Fr.refl _ _⟩) ?_
                simp only [List.set_cons_succ, List.set_cons_zero]
                refine wpL_heads 5 5 0 (by kernel_rfl) (by kernel_rfl) ?_ (by kernel_rfl)
                simp only [List.take_succ_cons, List.take_zero, List.drop_succ_cons, List.drop_zero]
                repeat (go_big_quiet_step (fail))
                refine wpQuiet_nil ?_
                clear z1
                refine wpL_done (by kernel_rfl) (fun w9 hc hc' => ?_)
                have HF9 := Lib.hid (HF4.out.trans' hc)
                clear hc hc'
                go_wp2
                go_ret
                exact ⟨rfl, HF9.out⟩
            · have qc : (cl != fr + to_) = true := by simp [hc]
              have hA : cd = 281 ∧ te = 1 := (Hl2.out (by omega)).1 (by omega)
              have qA : (cd == 281) = true := by simp [hA.1]
              have qE : (te == 1) = true := by simp [hA.2]
              clear hA
              have H_a1 := Lib.hid a1
              have H_a2 := Lib.hid a2
              have H_a3 := Lib.hid a3
              have H_k4 := Lib.hid k4
              have H_k5 := Lib.hid k5
              have H_hc := Lib.hid hc
              clear a1 a2 a3 k4 k5 hc
              go_wp2_with (go_at_call 8; refine (He.out _ HT5.out).mono ?_; rintro e5 w5 ⟨rfl, rfl⟩)
              go_ret
              exact ⟨rfl, HF4.out⟩
          have q5 : (k == 5) = false := by simpa using k5
          by_cases k6 : k = 6
          · have q6 : (k == 6) = true := by simpa using k6
            by_cases hc : cl = fr + to_
            · have qc : (cl != fr + to_) = false := by simp [hc]
              rcases (Hl2.out (by omega)).2 (by omega) with ⟨h1, h2, h3⟩ | ⟨h1, h2⟩
              · exfalso; omega
              · have qA : (cd == 280) = false := by simp [h1]
                have qB : (cd == 0) = true := by simp [h1]
                have qE : (te == ep) = true := by simp [h2]
                clear h1 h2
                have H_a1 := Lib.hid a1
                have H_a2 := Lib.hid a2
                have H_a3 := Lib.hid a3
                have H_k4 := Lib.hid k4
                have H_k5 := Lib.hid k5
                have H_k6 := Lib.hid k6
                have H_hc := Lib.hid hc
                clear a1 a2 a3 k4 k5 k6 hc
                go_wp2
                have z1 : ∀ (x : Later w4) i, x.w.cell? ⟨w.heap.size, i, none⟩ = (#[.int .i64 k, .int .i64 ep, .int .i64 cl, .int .i64 hv, .int .i64 fi, .int .i64 nu, .int .i64 ac, .int .i64 rv, .int .i64 tg, .int .i64 ok, .int .i64 op, .int .u8 (oc.toNat : Int), .int .i64 ol, .int .i64 os] : Array Value)[i]? := fun x i => Blk.cell (HM4.out.fr x.fr fun h => h) i
                refine wp_region_L (by kernel_rfl) ?_
                refine wpL_heads 4 0 6 (by kernel_rfl) (by kernel_rfl) ?_ (by kernel_rfl)
                simp only [List.take_succ_cons, List.take_zero, List.drop_zero]
                repeat (go_big_quiet_step (fail))
                refine wpQuiet_nil ?_
                refine wpL_callG (by kernel_rfl) 4 125 rfl rfl (by kernel_rfl) (by rfl) _ _ (.int .i64 te) (by intro w; simp [go_sem]) (fun w' hw' => (He.out w' (HT5.out.frn hw')).mono fun e w2 h => ⟨h.1, by rw [← h.2]; exact Fr.refl _ _⟩) ?_
                simp only [List.set_cons_succ, List.set_cons_zero]
                refine wpL_heads 5 5 0 (by kernel_rfl) (by kernel_rfl) ?_ (by kernel_rfl)
                simp only [List.take_succ_cons, List.take_zero, List.drop_succ_cons, List.drop_zero]
                repeat (go_big_quiet_step (fail))
                refine wpQuiet_nil ?_
                clear z1
                refine wpL_done (by kernel_rfl) (fun w9 hc hc' => ?_)
                have HF9 := Lib.hid (HF4.out.trans' hc)
                clear hc hc'
                go_wp2
                go_ret
                exact ⟨rfl, HF9.out⟩
            · have qc : (cl != fr + to_) = true := by simp [hc]
              have hA : cd = 281 ∧ te = 1 := (Hl2.out (by omega)).1 (by omega)
              have qA : (cd == 281) = true := by simp [hA.1]
              have qE : (te == 1) = true := by simp [hA.2]
              clear hA
              have H_a1 := Lib.hid a1
              have H_a2 := Lib.hid a2
              have H_a3 := Lib.hid a3
              have H_k4 := Lib.hid k4
              have H_k5 := Lib.hid k5
              have H_k6 := Lib.hid k6
              have H_hc := Lib.hid hc
              clear a1 a2 a3 k4 k5 k6 hc
              go_wp2_with (go_at_call 8; refine (He.out _ HT5.out).mono ?_; rintro e5 w5 ⟨rfl, rfl⟩)
              go_ret
              exact ⟨rfl, HF4.out⟩
          have q6 : (k == 6) = false := by simpa using k6
          have hA : cd = 281 ∧ te = 1 := (Hl2.out (by omega)).1 (by omega)
          have qA : (cd == 281) = true := by simp [hA.1]
          have qE : (te == 1) = true := by simp [hA.2]
          clear hA
          have H_a1 := Lib.hid a1
          have H_a2 := Lib.hid a2
          have H_a3 := Lib.hid a3
          have H_k4 := Lib.hid k4
          have H_k5 := Lib.hid k5
          have H_k6 := Lib.hid k6
          clear a1 a2 a3 k4 k5 k6
          go_wp2_with (go_at_call 8; refine (He.out _ HT5.out).mono ?_; rintro e5 w5 ⟨rfl, rfl⟩)
          go_ret
          exact ⟨rfl, HF4.out⟩
        · have d_a3 : (decide (to_ ≤ N)) = false := by simpa using a3
          have hA : cd = 71 ∧ te = 1 := Hl1.out (by omega) (by omega)
          have qA : (cd == 71) = true := by simp [hA.1]
          have qE : (te == 1) = true := by simp [hA.2]
          clear hA
          have H_a1 := Lib.hid a1
          have H_a2 := Lib.hid a2
          have H_a3 := Lib.hid a3
          clear a1 a2 a3
          go_wp2_with (go_at_call 8; refine (He.out _ HT5.out).mono ?_; rintro e5 w5 ⟨rfl, rfl⟩)
          go_ret
          exact ⟨rfl, HF4.out⟩
      · have d_a2 : (decide (1 ≤ to_)) = false := by simpa using a2
        by_cases b1 : to_ = 0
        · have d_b1 : (to_ == 0) = true := by simpa using b1
          have d_b2 : decide (1 ≤ fr) = false := by simp; omega
          have hA : cd = 71 ∧ te = 1 := Hl1.out (by omega) (by omega)
          have qA : (cd == 71) = true := by simp [hA.1]
          have qE : (te == 1) = true := by simp [hA.2]
          clear hA
          have H_a1 := Lib.hid a1
          have H_a2 := Lib.hid a2
          have H_b1 := Lib.hid b1
          clear a1 a2 b1
          go_wp2_with (go_at_call 8; refine (He.out _ HT5.out).mono ?_; rintro e5 w5 ⟨rfl, rfl⟩)
          go_ret
          exact ⟨rfl, HF4.out⟩
        · have d_b1 : (to_ == 0) = false := by simpa using b1
          have hA : cd = 71 ∧ te = 1 := Hl1.out (by omega) (by omega)
          have qA : (cd == 71) = true := by simp [hA.1]
          have qE : (te == 1) = true := by simp [hA.2]
          clear hA
          have H_a1 := Lib.hid a1
          have H_a2 := Lib.hid a2
          have H_b1 := Lib.hid b1
          clear a1 a2 b1
          go_wp2_with (go_at_call 8; refine (He.out _ HT5.out).mono ?_; rintro e5 w5 ⟨rfl, rfl⟩)
          go_ret
          exact ⟨rfl, HF4.out⟩
    · have d_a1 : (fr == 0) = false := by simpa using a1
      by_cases b1 : to_ = 0
      · have d_b1 : (to_ == 0) = true := by simpa using b1
        by_cases b2 : 1 ≤ fr
        · have d_b2 : (decide (1 ≤ fr)) = true := by simpa using b2
          by_cases b3 : fr ≤ N
          · have d_b3 : (decide (fr ≤ N)) = true := by simpa using b3
            have eW : IntKind.i64.wrap (fr + to_) = fr + to_ := IntWalk.i64_in _ (by have := HR.out; omega)
            by_cases k4 : k = 4
            · have q4 : (k == 4) = true := by simpa using k4
              have hA : cd = 281 ∧ te = 1 := (Hl2.out (by omega)).1 (by omega)
              have qA : (cd == 281) = true := by simp [hA.1]
              have qE : (te == 1) = true := by simp [hA.2]
              clear hA
              have H_a1 := Lib.hid a1
              have H_b1 := Lib.hid b1
              have H_b2 := Lib.hid b2
              have H_b3 := Lib.hid b3
              have H_k4 := Lib.hid k4
              clear a1 b1 b2 b3 k4
              go_wp2_with (go_at_call 8; refine (He.out _ HT5.out).mono ?_; rintro e5 w5 ⟨rfl, rfl⟩)
              go_ret
              exact ⟨rfl, HF4.out⟩
            have q4 : (k == 4) = false := by simpa using k4
            by_cases k5 : k = 5
            · have q5 : (k == 5) = true := by simpa using k5
              have hA : cd = 281 ∧ te = 1 := (Hl2.out (by omega)).1 (by omega)
              have qA : (cd == 281) = true := by simp [hA.1]
              have qE : (te == 1) = true := by simp [hA.2]
              clear hA
              have H_a1 := Lib.hid a1
              have H_b1 := Lib.hid b1
              have H_b2 := Lib.hid b2
              have H_b3 := Lib.hid b3
              have H_k4 := Lib.hid k4
              have H_k5 := Lib.hid k5
              clear a1 b1 b2 b3 k4 k5
              go_wp2_with (go_at_call 8; refine (He.out _ HT5.out).mono ?_; rintro e5 w5 ⟨rfl, rfl⟩)
              go_ret
              exact ⟨rfl, HF4.out⟩
            have q5 : (k == 5) = false := by simpa using k5
            by_cases k6 : k = 6
            · have q6 : (k == 6) = true := by simpa using k6
              have hA : cd = 281 ∧ te = 1 := (Hl2.out (by omega)).1 (by omega)
              have qA : (cd == 281) = true := by simp [hA.1]
              have qE : (te == 1) = true := by simp [hA.2]
              clear hA
              have H_a1 := Lib.hid a1
              have H_b1 := Lib.hid b1
              have H_b2 := Lib.hid b2
              have H_b3 := Lib.hid b3
              have H_k4 := Lib.hid k4
              have H_k5 := Lib.hid k5
              have H_k6 := Lib.hid k6
              clear a1 b1 b2 b3 k4 k5 k6
              go_wp2_with (go_at_call 8; refine (He.out _ HT5.out).mono ?_; rintro e5 w5 ⟨rfl, rfl⟩)
              go_ret
              exact ⟨rfl, HF4.out⟩
            have q6 : (k == 6) = false := by simpa using k6
            by_cases hc : cl = fr + to_
            · have qc : (cl != fr + to_) = false := by simp [hc]
              rcases (Hl2.out (by omega)).2 (by omega) with ⟨h1, h2, h3⟩ | ⟨h1, h2⟩
              · have qA : (cd == 280) = true := by simp [h1]
                have qE : (te == 1) = true := by simp [h3]
                have q2 : (k == 2) = true := by simp; omega
                clear h1 h2 h3
                have H_a1 := Lib.hid a1
                have H_b1 := Lib.hid b1
                have H_b2 := Lib.hid b2
                have H_b3 := Lib.hid b3
                have H_k4 := Lib.hid k4
                have H_k5 := Lib.hid k5
                have H_k6 := Lib.hid k6
                have H_hc := Lib.hid hc
                clear a1 b1 b2 b3 k4 k5 k6 hc
                go_wp2_with (go_at_call 8; refine (He.out _ HT5.out).mono ?_; rintro e5 w5 ⟨rfl, rfl⟩)
                go_ret
                exact ⟨rfl, HF4.out⟩
              · have qA : (cd == 280) = false := by simp [h1]
                have qB : (cd == 0) = true := by simp [h1]
                have qE : (te == ep) = true := by simp [h2]
                clear h1 h2
                have H_a1 := Lib.hid a1
                have H_b1 := Lib.hid b1
                have H_b2 := Lib.hid b2
                have H_b3 := Lib.hid b3
                have H_k4 := Lib.hid k4
                have H_k5 := Lib.hid k5
                have H_k6 := Lib.hid k6
                have H_hc := Lib.hid hc
                clear a1 b1 b2 b3 k4 k5 k6 hc
                go_wp2
                have z1 : ∀ (x : Later w4) i, x.w.cell? ⟨w.heap.size, i, none⟩ = (#[.int .i64 k, .int .i64 ep, .int .i64 cl, .int .i64 hv, .int .i64 fi, .int .i64 nu, .int .i64 ac, .int .i64 rv, .int .i64 tg, .int .i64 ok, .int .i64 op, .int .u8 (oc.toNat : Int), .int .i64 ol, .int .i64 os] : Array Value)[i]? := fun x i => Blk.cell (HM4.out.fr x.fr fun h => h) i
                refine wp_region_L (by kernel_rfl) ?_
                refine wpL_heads 4 0 6 (by kernel_rfl) (by kernel_rfl) ?_ (by kernel_rfl)
                simp only [List.take_succ_cons, List.take_zero, List.drop_zero]
                repeat (go_big_quiet_step (fail))
                refine wpQuiet_nil ?_
                refine wpL_callG (by kernel_rfl) 4 125 rfl rfl (by kernel_rfl) (by rfl) _ _ (.int .i64 te) (by intro w; simp [go_sem]) (fun w' hw' => (He.out w' (HT5.out.frn hw')).mono fun e w2 h => ⟨h.1, by rw [← h.2]; exact Fr.refl _ _⟩) ?_
                simp only [List.set_cons_succ, List.set_cons_zero]
                refine wpL_heads 5 5 0 (by kernel_rfl) (by kernel_rfl) ?_ (by kernel_rfl)
                simp only [List.take_succ_cons, List.take_zero, List.drop_succ_cons, List.drop_zero]
                repeat (go_big_quiet_step (fail))
                refine wpQuiet_nil ?_
                clear z1
                refine wpL_done (by kernel_rfl) (fun w9 hc hc' => ?_)
                have HF9 := Lib.hid (HF4.out.trans' hc)
                clear hc hc'
                go_wp2
                go_ret
                exact ⟨rfl, HF9.out⟩
            · have qc : (cl != fr + to_) = true := by simp [hc]
              have hA : cd = 281 ∧ te = 1 := (Hl2.out (by omega)).1 (by omega)
              have qA : (cd == 281) = true := by simp [hA.1]
              have qE : (te == 1) = true := by simp [hA.2]
              clear hA
              have H_a1 := Lib.hid a1
              have H_b1 := Lib.hid b1
              have H_b2 := Lib.hid b2
              have H_b3 := Lib.hid b3
              have H_k4 := Lib.hid k4
              have H_k5 := Lib.hid k5
              have H_k6 := Lib.hid k6
              have H_hc := Lib.hid hc
              clear a1 b1 b2 b3 k4 k5 k6 hc
              go_wp2_with (go_at_call 8; refine (He.out _ HT5.out).mono ?_; rintro e5 w5 ⟨rfl, rfl⟩)
              go_ret
              exact ⟨rfl, HF4.out⟩
          · have d_b3 : (decide (fr ≤ N)) = false := by simpa using b3
            have hA : cd = 71 ∧ te = 1 := Hl1.out (by omega) (by omega)
            have qA : (cd == 71) = true := by simp [hA.1]
            have qE : (te == 1) = true := by simp [hA.2]
            clear hA
            have H_a1 := Lib.hid a1
            have H_b1 := Lib.hid b1
            have H_b2 := Lib.hid b2
            have H_b3 := Lib.hid b3
            clear a1 b1 b2 b3
            go_wp2_with (go_at_call 8; refine (He.out _ HT5.out).mono ?_; rintro e5 w5 ⟨rfl, rfl⟩)
            go_ret
            exact ⟨rfl, HF4.out⟩
        · have d_b2 : (decide (1 ≤ fr)) = false := by simpa using b2
          have hA : cd = 71 ∧ te = 1 := Hl1.out (by omega) (by omega)
          have qA : (cd == 71) = true := by simp [hA.1]
          have qE : (te == 1) = true := by simp [hA.2]
          clear hA
          have H_a1 := Lib.hid a1
          have H_b1 := Lib.hid b1
          have H_b2 := Lib.hid b2
          clear a1 b1 b2
          go_wp2_with (go_at_call 8; refine (He.out _ HT5.out).mono ?_; rintro e5 w5 ⟨rfl, rfl⟩)
          go_ret
          exact ⟨rfl, HF4.out⟩
      · have d_b1 : (to_ == 0) = false := by simpa using b1
        have hA : cd = 71 ∧ te = 1 := Hl1.out (by omega) (by omega)
        have qA : (cd == 71) = true := by simp [hA.1]
        have qE : (te == 1) = true := by simp [hA.2]
        clear hA
        have H_a1 := Lib.hid a1
        have H_b1 := Lib.hid b1
        clear a1 b1
        go_wp2_with (go_at_call 8; refine (He.out _ HT5.out).mono ?_; rintro e5 w5 ⟨rfl, rfl⟩)
        go_ret
        exact ⟨rfl, HF4.out⟩
end Go.Proofs.YtodkhoclbhdihaaDoor
