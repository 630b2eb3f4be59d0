/-
  Contract of wire's Encode.
-/
import Derived.Test.YtodkhoclbhdihaaDoorLay
import Derived.Test.YtodkhoclbhdihaaDoorOrd
namespace Go.Proofs.YtodkhoclbhdihaaDoor
open Go.RowKit

/-- The shapes lie in their variable, below block B. -/
def ShapeG (B : Nat) (w : World) : Prop := ∀ k, k < 7 → ∃ A c, w.cell? ⟨0, k, none⟩ = some (.slice A (shape k).length c) ∧ RN w A (shape k).length (shape k) ∧ ∀ j, Foot A (shape k).length j → j < B
/-- The package-level variables that are read, all below block B. -/
structure Glb (B : Nat) (w : World) : Prop where
  tab : Tab w
  err : ErrT w
  size : SizeG w
  shapes : ShapeG B w
  four : 4 ≤ B
  le : B ≤ w.heap.size
theorem Glb.fr {B : Nat} {w w' : World} {S : Nat → Prop} (h : Glb B w) (hf : Fr S w w') (hs : ∀ k, S k → B ≤ k) : Glb B w' := by
  have h4 := h.four
  have n : ∀ k, k < 4 → ¬ S k := fun k hk hS => by have := hs k hS; omega
  refine ⟨⟨Nat.lt_of_lt_of_le h.tab.1 hf.size, fun i hi => (hf.cell (p := ⟨3, i, none⟩) h.tab.1 (n 3 (by omega))).trans (h.tab.2 i hi)⟩, h.err.fr hf (n _ (by omega)), h.size.fr hf (n _ (by omega)), ?_, h4, Nat.le_trans h.le hf.size⟩
  intro k hk
  obtain ⟨A, c, hc, hr, hb⟩ := h.shapes k hk
  exact ⟨A, c, (hf.cell (p := ⟨0, k, none⟩) (lt_of_cell hc) (n 0 (by omega))).trans hc, hr.fr hf fun j hj hS => by have := hb j hj; have := hs j hS; omega, hb⟩

theorem enc_kind (m : GMsg) (w : World) (h : m.kind < 1 ∨ 6 < m.kind) :
    Calls Tryd.prog 18 #[msgV m] w fun e w' => ∃ g, e = .returned (.tuple #[.slice none 0 0, errV g]) ∧ Fault w' g 0 61 ∧ Fr None' w w' := by
  have He := Lib.hid fun w => wrap_any 0 61 w
  unfold msgV msgCells opCells
  go_enter Tryd.func18, Tryd.ntmps18
  go_wp2_with (go_at_call 22; refine (He.out _).mono ?_; rintro e w' ⟨rfl, hF, rfl⟩)
  all_goals first
    | omega
    | (go_ret2; exact ⟨_, rfl, by simpa using hF, ((Fr.refl _ _).alloc _).alloc _⟩)

/-- A whole variable of values written. -/
theorem run_store_vals {w : World} {g : Nat} {t : TypeId} {cur : Array Value} (h : Blk w g t cur) (hs : cur.size = 14) (v : V) :
    (storeCells ⟨g, 0, none⟩ (vcells v).toList).run Tryd.prog w = .ok () (w.setRow g (vcells v)) := by
  have := run_storeCells_at Tryd.prog g 0 t (vcells v).toList 0 cur w h (by simp [vcells, hs]) (by simp [vcells, Value.oneCell'])
  rw [this]
  have e : cur.toList.drop 14 = [] := List.drop_of_length_le (by simp [hs])
  simp [vcells, e]

/-- What Encode answers. -/
def EncPost (w : World) (m : GMsg) (e : Ending) (w' : World) : Prop :=
  match encF m with
  | .ok l => ∃ v, e = .returned (.tuple #[v, .nilIface]) ∧ NewB w w' v l ∧ Fr None' w w'
  | .error (c, a) => ∃ g, e = .returned (.tuple #[.slice none 0 0, errV g]) ∧ Fault w' g a c ∧ Fr None' w w'

theorem firstBad_some {v : V} {sh : List Nat} {mk : Int} {f : Nat} (h1 : 1 ≤ f) (h2 : f < 14) (hb : badF v sh mk f = true) (hp : ∀ j, 1 ≤ j → j < f → badF v sh mk j = false) : firstBad v sh mk = some f := by
  unfold firstBad
  rw [List.find?_range'_eq_some]
  refine ⟨hb, by simp; omega, fun j hj1 hj2 => ?_⟩
  simp [hp j hj1 hj2]
theorem firstBad_none {v : V} {sh : List Nat} {mk : Int} (hp : ∀ j, 1 ≤ j → j < 14 → badF v sh mk j = false) : firstBad v sh mk = none := by
  unfold firstBad
  rw [List.find?_range'_eq_none]
  intro j hj1 hj2
  simp [hp j hj1 (by omega)]

theorem shape_len (k : Nat) : (shape k).length ≤ 10 := by
  match k with
  | 0 | 1 | 2 | 3 | 4 | 5 | 6 => decide
  | k + 7 => simp [shape]
theorem shape_mem (k : Nat) : ∀ f ∈ shape k, 1 ≤ f ∧ f < 14 := by
  match k with
  | 0 | 1 | 2 | 3 | 4 | 5 | 6 => decide
  | k + 7 => simp [shape]
theorem mayB_of {v : V} {sh : List Nat} {mk : Int} {f : Nat} (h : badF v sh mk f = false) (hm : f ∈ sh) : loF f v mk ≤ v f ∧ v f ≤ hiF f v mk := by
  have hn : namedB sh f = true := by unfold namedB; simpa using hm
  unfold badF mayB at h
  rw [hn] at h
  simpa using h
theorem named_pos {v : V} {sh : List Nat} {mk : Int} (hp : ∀ j, 1 ≤ j → j < 14 → badF v sh mk j = false) (hmk : mk = 0 ∨ (mk = v 2 ∧ 2 ∈ sh)) (f : Nat) (hf : 1 ≤ f ∧ f < 14) (hm : f ∈ sh) : 0 ≤ v f ∧ v f ≤ 65535 := by
  have h := mayB_of (hp f hf.1 hf.2) hm
  have hk : mk = 0 ∨ (1 ≤ mk ∧ mk ≤ 64) := by
    rcases hmk with h0 | ⟨h0, h2⟩
    · exact .inl h0
    · have := mayB_of (hp 2 (by omega) (by omega)) h2
      simp only [loF, hiF] at this
      exact .inr (by omega)
  clear hp hmk hm
  obtain rfl | rfl | rfl | rfl | rfl | rfl | rfl | rfl | rfl | rfl | rfl | rfl | rfl : f = 1 ∨ f = 2 ∨ f = 3 ∨ f = 4 ∨ f = 5 ∨ f = 6 ∨ f = 7 ∨ f = 8 ∨ f = 9 ∨ f = 10 ∨ f = 11 ∨ f = 12 ∨ f = 13 := by omega
  all_goals
    simp only [loF, hiF] at h
    first
      | omega
      | (split at h <;> (try split at h) <;> omega)
theorem fieldB_len (v : V) (f : Nat) : (fieldB v f).length ≤ 2 := by
  unfold fieldB
  split <;> simp
theorem flatten_len (v : V) (sh : List Nat) : ((sh.map (fieldB v)).flatten).length ≤ 2 * sh.length := by
  induction sh with
  | nil => simp
  | cons f sh ih =>
    have := fieldB_len v f
    simp only [List.map_cons, List.flatten_cons, List.length_append, List.length_cons]
    omega
theorem layB_len (v : V) (k : Nat) : (layB v (shape k)).length ≤ 10000 := by
  have h1 := flatten_len v (shape k)
  have h2 := shape_len k
  unfold layB
  simp only [List.length_cons]
  omega

set_option maxHeartbeats 4000000 in
theorem enc_any (B : Nat) (m : GMsg) (w : World) (hG : Glb B w) (h1 : 1 ≤ m.kind) (h6 : m.kind ≤ 6) :
    Calls Tryd.prog 18 #[msgV m] w (EncPost w m) := by
  have Hf := Lib.hid fun w => flat_any m w
  obtain ⟨k, hk⟩ : ∃ k : Nat, m.kind = k := ⟨m.kind.toNat, by omega⟩
  obtain ⟨A, c, hsc, hrn, _⟩ := hG.shapes k (by omega)
  have hm : msgV m = .agg #[.int .i64 k, .int .i64 m.epoch, .int .i64 m.client, .int .i64 m.have_, .int .i64 m.first, .int .i64 m.num, .int .i64 m.ack, .int .i64 m.rev, .int .i64 m.tag, .int .i64 m.op.kind, .int .i64 m.op.pos, .int .u8 (m.op.ch.toNat : Int), .int .i64 m.op.client, .int .i64 m.op.seq] := by
    rw [← hk]
    rfl
  rw [hk] at h1 h6
  rw [hm] at Hf ⊢
  generalize hfv : flat m = fv at Hf
  generalize m.epoch = x1 at *
  generalize hx2 : m.client = x2 at *
  have HX2 := Lib.hid hx2
  clear hx2
  generalize m.have_ = x3 at *
  generalize m.first = x4 at *
  generalize m.num = x5 at *
  generalize m.ack = x6 at *
  generalize m.rev = x7 at *
  generalize m.tag = x8 at *
  generalize m.op.kind = x9 at *
  generalize m.op.pos = x10 at *
  generalize (m.op.ch.toNat : Int) = x11 at *
  generalize m.op.client = x12 at *
  generalize m.op.seq = x13 at *
  have HK := Lib.hid hk
  have HFV := Lib.hid hfv
  clear hk hm hfv
  have hk7 : (k : Int) < 7 := by omega
  have hd1 : decide ((k : Int) < 1) = false := by simp; omega
  have hd6 : decide (6 < (k : Int)) = false := by simp; omega
  have hlt0 : 0 < w.heap.size := lt_of_cell hsc
  go_enter Tryd.func18, Tryd.ntmps18
  go_wp2
  generalize hW : w.alloc (.cells #[.int .i64 k, .int .i64 x1, .int .i64 x2, .int .i64 x3, .int .i64 x4, .int .i64 x5, .int .i64 x6, .int .i64 x7, .int .i64 x8, .int .i64 x9, .int .i64 x10, .int .u8 x11, .int .i64 x12, .int .i64 x13] 25) = W
  have hbox : Blk W w.heap.size 25 #[.int .i64 k, .int .i64 x1, .int .i64 x2, .int .i64 x3, .int .i64 x4, .int .i64 x5, .int .i64 x6, .int .i64 x7, .int .i64 x8, .int .i64 x9, .int .i64 x10, .int .u8 x11, .int .i64 x12, .int .i64 x13] := by rw [← hW]; exact Blk.new _ _ _
  have hwW : Fr None' w W := by rw [← hW]; exact (Fr.refl _ _).alloc _
  have HW := Lib.hid hwW
  have HB := Lib.hid hbox
  have hrB : ∀ (x : Later W) i, x.w.cell? ⟨w.heap.size, i, none⟩ = (#[.int .i64 k, .int .i64 x1, .int .i64 x2, .int .i64 x3, .int .i64 x4, .int .i64 x5, .int .i64 x6, .int .i64 x7, .int .i64 x8, .int .i64 x9, .int .i64 x10, .int .u8 x11, .int .i64 x12, .int .i64 x13] : Array Value)[i]? := fun x => (hbox.fr x.fr fun h => h).cell
  have hrS : ∀ x : Later W, x.w.cell? ⟨0, k, none⟩ = some (.slice A (shape k).length c) := fun x => ((hwW.trans' x.fr).cell (p := ⟨0, k, none⟩) hlt0 fun h => h).trans hsc
  clear hW hwW hbox hsc
  refine wp_region_L (by kernel_rfl) ?_
  refine wpL_heads 1 0 8 (by kernel_rfl) (by kernel_rfl) ?_ (by kernel_rfl)
  simp only [List.take_succ_cons, List.take_zero, List.drop_zero]
  repeat (go_big_quiet_step (fail))
  refine wpQuiet_nil ?_
  refine wpL_call (by kernel_rfl) 1 18 rfl rfl (by kernel_rfl) rfl _ _ _ (by intro w; simp [go_sem]) (fun w' _ => Hf.out w') ?_
  simp only [List.set_cons_succ, List.set_cons_zero]
  refine wpL_heads 4 2 3 (by kernel_rfl) (by kernel_rfl) ?_ (by kernel_rfl)
  simp only [List.take_succ_cons, List.take_zero, List.drop_succ_cons, List.drop_zero]
  repeat (go_big_quiet_step (fail))
  refine wpQuiet_nil ?_
  clear hrB hrS
  refine wpL_step 6 rfl (by kernel_rfl) (fun w1 hw1 hw1' => ?_)
  have Hw1 := Lib.hid hw1
  clear hw1 hw1'
  go_wp2
  refine ⟨LC.mk (Hw1.out.alloc _), ?_⟩
  refine wpL_step 7 rfl (by kernel_rfl) (fun w2 hw2 hw2' => ?_)
  have hv0 := Blk.fr (Blk.new w1 _ _) hw2' (fun h => h)
  have hst := run_store_vals hv0 rfl fv
  have HV0 := Lib.hid hv0
  have Hw2 := Lib.hid hw2
  clear hw2 hw2' hv0
  go_wp2
  refine ⟨LC.mk (Hw2.out.setRow (.inl Hw1.out.size) _), ?_⟩
  have hv1 : Vals (w2.setRow w1.heap.size (vcells fv)) w1.heap.size fv := HV0.out.setRow _
  refine wpL_step 8 rfl (by kernel_rfl) (fun w3 hw3 hw3' => ?_)
  have HV3 := Lib.hid (hv1.fr hw3' (fun h => h))
  have Hw3 := Lib.hid hw3
  clear hw3 hw3' hv1 hst
  go_wp2
  refine ⟨LC.mk Hw3.out, wpL_done (by kernel_rfl) (fun w4 hw4 hw4' => ?_)⟩
  have HV := Lib.hid (HV3.out.fr hw4' (fun h => h))
  have HF := Lib.hid (HW.out.trans' hw4)
  have HX := Lib.hid (HB.out.fr hw4 fun h => h)
  have hgw : w.heap.size ≤ w1.heap.size := Nat.le_trans HW.out.size Hw1.out.size
  clear HV3 HV0 Hw2 Hw3 hw4 hw4' HB HW Hw1 Hf
  generalize w1.heap.size = g at *
  have hG4 := Lib.hid (hG.fr HF.out (fun _ h => h.elim))
  have hrn4 := Lib.hid (hrn.frn HF.out)
  have b0 := HX.out.cell 0
  have b2 := HX.out.cell 2
  clear hG hrn
  obtain ⟨mk, hmk⟩ : ∃ mk : Int, mk = if (k : Int) = 2 then x2 else 0 := ⟨_, rfl⟩
  have HMK := Lib.hid hmk
  clear hmk
  have hsh : ∀ f ∈ shape k, 1 ≤ f ∧ f < 14 := shape_mem k
  have H1 := Lib.hid h1
  have H6 := Lib.hid h6
  by_cases hk2 : k = 2
  · have hb : ((k : Int) == 2) = true := by rw [hk2]; rfl
    have HMKE : Hid ((if (k : Int) = 2 then m.client else 0) = x2) := by
      show (if (k : Int) = 2 then m.client else 0) = x2
      rw [if_pos (by omega)]
      exact HX2.out
    have HMK2 := Lib.hid (show x2 = 0 ∨ (x2 = fv 2 ∧ 2 ∈ shape k) from .inr ⟨by rw [← HFV.out]; exact HX2.out.symm, by rw [hk2]; decide⟩)
    clear HMK hk2
    go_wp2
    go_loop [7] (fun i => ∃ f : Nat, 1 ≤ f ∧ f ≤ 14 ∧ i = .int .i64 f ∧ ∀ j, 1 ≤ j → j < f → badF fv (shape k) x2 j = false) (fun i => 14 - (intOf i).toNat)
    case atStart => exact ⟨1, by omega, by omega, rfl, fun j h1 h2 => by omega⟩
    case round =>
      obtain ⟨f, hf1, hf2, rfl, hpre⟩ := hrel
      have HP := Lib.hid hpre
      clear hpre
      by_cases hlt : f < 14
      · have hn := named_any A (shape k).length c (shape k) f w4 hrn4.out (by have := shape_len k; omega)
        have hm := may_any g f fv x2 w4 HV.out hlt
        have hx := HV.out.at_ f hlt
        have hfi : (f : Int) < 14 := by omega
        have hbd : ∀ b1 b2 : Bool, namedB (shape k) f = b1 → mayB f fv x2 = b2 → badF fv (shape k) x2 f = ((b1 && !b2) || (!b1 && decide (fv f ≠ 0))) := fun b1 b2 h1 h2 => by unfold badF; rw [h1, h2]
        have HBD := Lib.hid hbd
        clear hbd
        have hgo : ∀ b, badF fv (shape k) x2 f = b → b = false → ∀ j, 1 ≤ j → j < f + 1 → badF fv (shape k) x2 j = false := fun b h1 h2 j hj1 hj2 => by
          by_cases hj : j = f
          · rw [hj, h1, h2]
          · exact HP.out j hj1 (by omega)
        have HGO := Lib.hid hgo
        clear hgo
        have hend : badF fv (shape k) x2 f = true → encF m = .error (63, (f : Int)) := fun hb => by
          unfold encF
          rw [if_neg (by have := HK.out; omega), HFV.out, HK.out, Int.toNat_natCast, HMKE.out, firstBad_some hf1 hlt hb HP.out]
        have HEND := Lib.hid hend
        clear hend
        cases hnv : namedB (shape k) f with
        | true =>
          rw [hnv] at hn
          cases hmv : mayB f fv x2 with
          | true =>
            rw [hmv] at hm
            have HN := Lib.hid (HGO.out _ (HBD.out _ _ hnv hmv) (by simp))
            have Hn := Lib.hid hn
            have Hm := Lib.hid hm
            clear hn hm hnv hmv hx
            go_wp2_with (first | (go_at_call 29; refine Hn.out.mono ?_; rintro e w' ⟨rfl, rfl⟩) | (go_at_call 30; refine Hm.out.mono ?_; rintro e w' ⟨rfl, rfl⟩))
            go_round
            case rel => exact ⟨f + 1, by omega, by omega, by go_num, HN.out⟩
            case measure => simp [intOf]; omega
          | false =>
            rw [hmv] at hm
            have HN := Lib.hid (HEND.out ((HBD.out _ _ hnv hmv).trans (by simp)))
            have Hn := Lib.hid hn
            have Hm := Lib.hid hm
            clear hn hm hnv hmv hx
            go_wp2_with (first | (go_at_call 29; refine Hn.out.mono ?_; rintro e w' ⟨rfl, rfl⟩) | (go_at_call 30; refine Hm.out.mono ?_; rintro e w' ⟨rfl, rfl⟩) | (go_at_call 22; refine (wrap_any _ _ _).mono ?_; rintro e w' ⟨rfl, hF, rfl⟩))
            go_ret2
            unfold EncPost
            rw [HN.out]
            exact ⟨_, rfl, hF, HF.out.alloc _⟩
        | false =>
          rw [hnv] at hn
          by_cases hz : fv f = 0
          · have HN := Lib.hid (HGO.out _ (HBD.out _ _ hnv rfl) (by simp [hz]))
            have hzb : (fv f != 0) = false := by simp [hz]
            have Hn := Lib.hid hn
            have HZ := Lib.hid hz
            clear hn hm hnv hz
            go_wp2_with (first | (go_at_call 29; refine Hn.out.mono ?_; rintro e w' ⟨rfl, rfl⟩))
            go_round
            case rel => exact ⟨f + 1, by omega, by omega, by go_num, HN.out⟩
            case measure => simp [intOf]; omega
          · have HN := Lib.hid (HEND.out ((HBD.out _ _ hnv rfl).trans (by simp [hz])))
            have hzb : (fv f != 0) = true := by simp [hz]
            have Hn := Lib.hid hn
            have HZ := Lib.hid hz
            clear hn hm hnv hz
            go_wp2_with (first | (go_at_call 29; refine Hn.out.mono ?_; rintro e w' ⟨rfl, rfl⟩) | (go_at_call 22; refine (wrap_any _ _ _).mono ?_; rintro e w' ⟨rfl, hF, rfl⟩))
            go_ret2
            unfold EncPost
            rw [HN.out]
            exact ⟨_, rfl, hF, HF.out.alloc _⟩
      · obtain rfl : f = 14 := by omega
        have hend : encF m = .ok (sealed (layB fv (shape k))) := by
          unfold encF
          rw [if_neg (by have := HK.out; omega), HFV.out, HK.out, Int.toNat_natCast, HMKE.out, firstBad_none HP.out]
        have HEND := Lib.hid hend
        have hpos : ∀ f ∈ shape k, 0 ≤ fv f ∧ fv f ≤ 65535 := fun f hf => named_pos HP.out (by first | exact HMK2.out | exact .inl rfl) f (hsh f hf) hf
        have h0 : fv 0 = (k : Int) := by rw [← HFV.out]; exact HK.out
        have Hl := Lib.hid (lay_any g fv A (shape k).length c (shape k) w4 hG4.out.size HV.out hrn4.out (fun f hf => (hsh f hf).2) hpos (by rw [h0]; omega) (by rw [h0]; omega) (by have := shape_len k; omega))
        clear hend hpos h0
        go_wp2_with (go_at_call 32; refine Hl.out.mono ?_; rintro e w5 ⟨r, rfl, hnb, hf5⟩)
        obtain ⟨gb, hgb, rfl, hrb⟩ := hnb.rb
        have Hs := Lib.hid (seal_any _ _ (layB fv (shape k)).length _ w5 (hG4.out.fr hf5 fun _ h => h.elim).tab hrb (layB_len fv k))
        have HF5 := Lib.hid hf5
        clear hrb hnb hf5
        go_wp2_with (go_at_call 31; refine Hs.out.mono ?_; rintro e w6 ⟨r, rfl, hnb, hf6⟩)
        go_ret2
        unfold EncPost
        rw [HEND.out]
        exact ⟨r, rfl, hnb.later (Nat.le_trans HF.out.size HF5.out.size), (HF.out.trans' HF5.out).trans' hf6⟩
  · have hb : ((k : Int) == 2) = false := by simp; omega
    have HMKE : Hid ((if (k : Int) = 2 then m.client else 0) = 0) := by
      show (if (k : Int) = 2 then m.client else 0) = 0
      rw [if_neg (by omega)]
    have HMK2 := Lib.hid (show (0 : Int) = 0 ∨ ((0 : Int) = fv 2 ∧ 2 ∈ shape k) from .inl rfl)
    clear HMK hk2
    go_wp2
    go_loop [7] (fun i => ∃ f : Nat, 1 ≤ f ∧ f ≤ 14 ∧ i = .int .i64 f ∧ ∀ j, 1 ≤ j → j < f → badF fv (shape k) 0 j = false) (fun i => 14 - (intOf i).toNat)
    case atStart => exact ⟨1, by omega, by omega, rfl, fun j h1 h2 => by omega⟩
    case round =>
      obtain ⟨f, hf1, hf2, rfl, hpre⟩ := hrel
      have HP := Lib.hid hpre
      clear hpre
      by_cases hlt : f < 14
      · have hn := named_any A (shape k).length c (shape k) f w4 hrn4.out (by have := shape_len k; omega)
        have hm := may_any g f fv 0 w4 HV.out hlt
        have hx := HV.out.at_ f hlt
        have hfi : (f : Int) < 14 := by omega
        have hbd : ∀ b1 b2 : Bool, namedB (shape k) f = b1 → mayB f fv 0 = b2 → badF fv (shape k) 0 f = ((b1 && !b2) || (!b1 && decide (fv f ≠ 0))) := fun b1 b2 h1 h2 => by unfold badF; rw [h1, h2]
        have HBD := Lib.hid hbd
        clear hbd
        have hgo : ∀ b, badF fv (shape k) 0 f = b → b = false → ∀ j, 1 ≤ j → j < f + 1 → badF fv (shape k) 0 j = false := fun b h1 h2 j hj1 hj2 => by
          by_cases hj : j = f
          · rw [hj, h1, h2]
          · exact HP.out j hj1 (by omega)
        have HGO := Lib.hid hgo
        clear hgo
        have hend : badF fv (shape k) 0 f = true → encF m = .error (63, (f : Int)) := fun hb => by
          unfold encF
          rw [if_neg (by have := HK.out; omega), HFV.out, HK.out, Int.toNat_natCast, HMKE.out, firstBad_some hf1 hlt hb HP.out]
        have HEND := Lib.hid hend
        clear hend
        cases hnv : namedB (shape k) f with
        | true =>
          rw [hnv] at hn
          cases hmv : mayB f fv 0 with
          | true =>
            rw [hmv] at hm
            have HN := Lib.hid (HGO.out _ (HBD.out _ _ hnv hmv) (by simp))
            have Hn := Lib.hid hn
            have Hm := Lib.hid hm
            clear hn hm hnv hmv hx
            go_wp2_with (first | (go_at_call 29; refine Hn.out.mono ?_; rintro e w' ⟨rfl, rfl⟩) | (go_at_call 30; refine Hm.out.mono ?_; rintro e w' ⟨rfl, rfl⟩))
            go_round
            case rel => exact ⟨f + 1, by omega, by omega, by go_num, HN.out⟩
            case measure => simp [intOf]; omega
          | false =>
            rw [hmv] at hm
            have HN := Lib.hid (HEND.out ((HBD.out _ _ hnv hmv).trans (by simp)))
            have Hn := Lib.hid hn
            have Hm := Lib.hid hm
            clear hn hm hnv hmv hx
            go_wp2_with (first | (go_at_call 29; refine Hn.out.mono ?_; rintro e w' ⟨rfl, rfl⟩) | (go_at_call 30; refine Hm.out.mono ?_; rintro e w' ⟨rfl, rfl⟩) | (go_at_call 22; refine (wrap_any _ _ _).mono ?_; rintro e w' ⟨rfl, hF, rfl⟩))
            go_ret2
            unfold EncPost
            rw [HN.out]
            exact ⟨_, rfl, hF, HF.out.alloc _⟩
        | false =>
          rw [hnv] at hn
          by_cases hz : fv f = 0
          · have HN := Lib.hid (HGO.out _ (HBD.out _ _ hnv rfl) (by simp [hz]))
            have hzb : (fv f != 0) = false := by simp [hz]
            have Hn := Lib.hid hn
            have HZ := Lib.hid hz
            clear hn hm hnv hz
            go_wp2_with (first | (go_at_call 29; refine Hn.out.mono ?_; rintro e w' ⟨rfl, rfl⟩))
            go_round
            case rel => exact ⟨f + 1, by omega, by omega, by go_num, HN.out⟩
            case measure => simp [intOf]; omega
          · have HN := Lib.hid (HEND.out ((HBD.out _ _ hnv rfl).trans (by simp [hz])))
            have hzb : (fv f != 0) = true := by simp [hz]
            have Hn := Lib.hid hn
            have HZ := Lib.hid hz
            clear hn hm hnv hz
            go_wp2_with (first | (go_at_call 29; refine Hn.out.mono ?_; rintro e w' ⟨rfl, rfl⟩) | (go_at_call 22; refine (wrap_any _ _ _).mono ?_; rintro e w' ⟨rfl, hF, rfl⟩))
            go_ret2
            unfold EncPost
            rw [HN.out]
            exact ⟨_, rfl, hF, HF.out.alloc _⟩
      · obtain rfl : f = 14 := by omega
        have hend : encF m = .ok (sealed (layB fv (shape k))) := by
          unfold encF
          rw [if_neg (by have := HK.out; omega), HFV.out, HK.out, Int.toNat_natCast, HMKE.out, firstBad_none HP.out]
        have HEND := Lib.hid hend
        have hpos : ∀ f ∈ shape k, 0 ≤ fv f ∧ fv f ≤ 65535 := fun f hf => named_pos HP.out (by first | exact HMK2.out | exact .inl rfl) f (hsh f hf) hf
        have h0 : fv 0 = (k : Int) := by rw [← HFV.out]; exact HK.out
        have Hl := Lib.hid (lay_any g fv A (shape k).length c (shape k) w4 hG4.out.size HV.out hrn4.out (fun f hf => (hsh f hf).2) hpos (by rw [h0]; omega) (by rw [h0]; omega) (by have := shape_len k; omega))
        clear hend hpos h0
        go_wp2_with (go_at_call 32; refine Hl.out.mono ?_; rintro e w5 ⟨r, rfl, hnb, hf5⟩)
        obtain ⟨gb, hgb, rfl, hrb⟩ := hnb.rb
        have Hs := Lib.hid (seal_any _ _ (layB fv (shape k)).length _ w5 (hG4.out.fr hf5 fun _ h => h.elim).tab hrb (layB_len fv k))
        have HF5 := Lib.hid hf5
        clear hrb hnb hf5
        go_wp2_with (go_at_call 31; refine Hs.out.mono ?_; rintro e w6 ⟨r, rfl, hnb, hf6⟩)
        go_ret2
        unfold EncPost
        rw [HEND.out]
        exact ⟨r, rfl, hnb.later (Nat.le_trans HF.out.size HF5.out.size), (HF.out.trans' HF5.out).trans' hf6⟩
end Go.Proofs.YtodkhoclbhdihaaDoor
