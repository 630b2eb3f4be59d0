/-
  Contract of wire's Decode.
-/
import Derived.Test.YtodkhoclbhdihaaDoorVop
import Derived.Test.YtodkhoclbhdihaaDoorOrm
import Derived.Deep.Cut
namespace Go.Proofs.YtodkhoclbhdihaaDoor
open Go.RowKit

def zeroM : GMsg := ⟨0, 0, 0, 0, 0, 0, 0, 0, 0, ⟨0, 0, 0, 0, 0⟩⟩
/-- What Decode answers. -/
def DecPost (w : World) (xs : List UInt8) (e : Ending) (w' : World) : Prop :=
  match decF xs with
  | .ok m => e = .returned (.tuple #[msgV m, .nilIface]) ∧ Fr None' w w'
  | .error (c, a) => ∃ g, e = .returned (.tuple #[msgV zeroM, errV g]) ∧ Fault w' g a c ∧ Fr None' w w'

/-- A block that a message's zero value fills. -/
def ZM (w : World) (g : Nat) : Prop := Blk w g 25 (msgCells zeroM).toArray
theorem ZM.cell {w : World} {g : Nat} (h : ZM w g) : ∀ i, w.cell? ⟨g, i, none⟩ = (#[.int .i64 0, .int .i64 0, .int .i64 0, .int .i64 0, .int .i64 0, .int .i64 0, .int .i64 0, .int .i64 0, .int .i64 0, .int .i64 0, .int .i64 0, .int .u8 0, .int .i64 0, .int .i64 0] : Array Value)[i]? := fun i => Blk.cell h i
theorem ZM.same {w : World} {g : Nat} (h : ZM w g) : (∀ i, i < 14 → i ≠ 11 → w.setCell ⟨g, i, none⟩ (.int .i64 0) = w) ∧ w.setCell ⟨g, 11, none⟩ (.int .u8 0) = w := by
  refine ⟨fun i hi hn => setCell_same ?_, setCell_same ?_⟩
  · rw [h.cell]
    match i, hi, hn with
    | 0, _, _ | 1, _, _ | 2, _, _ | 3, _, _ | 4, _, _ | 5, _, _ | 6, _, _ | 7, _, _ | 8, _, _ | 9, _, _ | 10, _, _ | 12, _, _ | 13, _, _ => rfl
  · rw [h.cell]
    rfl

theorem lenF_small (k : Nat) : lenF (shape k) < 100 := by
  match k with
  | 0 | 1 | 2 | 3 | 4 | 5 | 6 => decide
  | k + 7 => simp [shape, lenF]
theorem dec_err (A : Option Addr) (n c : Nat) (code at_ : Int) (w : World)
    (hb : ∀ w', Fr None' w w' → Calls Tryd.prog 36 #[.slice A n c] w' (ErrPost (.slice none 0 0) w' code at_)) :
    Calls Tryd.prog 23 #[.slice A n c] w fun e w' => ∃ g, e = .returned (.tuple #[msgV zeroM, errV g]) ∧ Fault w' g at_ code ∧ Fr None' w w' := by
  have hf0 : Fr None' w (w.alloc (.cells (msgCells zeroM).toArray 25)) := (Fr.refl _ _).alloc _
  have hz0 : ZM (w.alloc (.cells (msgCells zeroM).toArray 25)) w.heap.size := Blk.new _ _ _
  have Hb := Lib.hid (hb _ hf0)
  clear hb
  have hmz : (msgCells zeroM).toArray = #[.int .i64 0, .int .i64 0, .int .i64 0, .int .i64 0, .int .i64 0, .int .i64 0, .int .i64 0, .int .i64 0, .int .i64 0, .int .i64 0, .int .i64 0, .int .u8 0, .int .i64 0, .int .i64 0] := rfl
  rw [hmz] at hf0 hz0 Hb
  clear hmz
  go_enter Tryd.func23, Tryd.ntmps23
  go_wp2_with fail
  generalize w.alloc _ = W0 at *
  refine Hb.out.mono ?_
  rintro e w1 ⟨g, rfl, hF, hf1⟩
  have hz1 : ZM w1 w.heap.size := Blk.fr hz0 hf1 fun h => h
  have hcz := hz1.cell
  have hfz := fun i => Blk.frozen hz1 i
  have hs1 := hz1.same.1
  have hs2 := hz1.same.2
  have HF := Lib.hid hF
  have HW := Lib.hid (hf0.trans' hf1)
  clear hF hf0 hf1 hz0 hz1
  unfold errV at *
  go_wp2
  exact bodyPost_ret (v := .tuple #[msgV zeroM, errV g]) (by simp [results, Tryd.results23, go_sem, hcz]; exact ⟨rfl, rfl⟩) rfl ⟨g, rfl, HF.out, HW.out⟩
/-- Where the sum is right and something stands ahead of it. -/
theorem dec_in_kind (B : Nat) (A : Option Addr) (n c : Nat) (k : UInt8) (l : List UInt8) (w : World) (hG : Glb B w) (hL : l.length ≤ 60) (hk : k.toNat < 1 ∨ 6 < k.toNat)
    (hb : ∀ w', Fr None' w w' → Calls Tryd.prog 36 #[.slice A n c] w' fun e w2 => ∃ v, e = .returned (.tuple #[v, .nilIface]) ∧ NewB w' w2 v (k :: l) ∧ Fr None' w' w2) :
    Calls Tryd.prog 23 #[.slice A n c] w fun e w' => ∃ g, e = .returned (.tuple #[msgV zeroM, errV g]) ∧ Fault w' g (0) 61 ∧ Fr None' w w' := by
  have hf0 : Fr None' w (w.alloc (.cells (msgCells zeroM).toArray 25)) := (Fr.refl _ _).alloc _
  have hz0 : ZM (w.alloc (.cells (msgCells zeroM).toArray 25)) w.heap.size := Blk.new _ _ _
  have Hb := Lib.hid (hb _ hf0)
  have hG0 := hG.fr hf0 (fun _ h => h.elim)
  clear hb hG
  have hmz : (msgCells zeroM).toArray = #[.int .i64 0, .int .i64 0, .int .i64 0, .int .i64 0, .int .i64 0, .int .i64 0, .int .i64 0, .int .i64 0, .int .i64 0, .int .i64 0, .int .i64 0, .int .u8 0, .int .i64 0, .int .i64 0] := rfl
  rw [hmz] at hf0 hz0 Hb hG0
  clear hmz
  go_enter Tryd.func23, Tryd.ntmps23
  go_wp2_with fail
  generalize w.alloc _ = W0 at *
  refine Hb.out.mono ?_
  rintro e w1 ⟨v, rfl, ⟨g, hg, rfl, hbk⟩, hf1⟩
  have hz1 : ZM w1 w.heap.size := Blk.fr hz0 hf1 fun h => h
  have hG1 := hG0.fr hf1 (fun _ h => h.elim)
  have hW1 := hf0.trans' hf1
  have hcell0 : w1.cell? ⟨g, 0, none⟩ = some (.int .u8 (k.toNat : Int)) := by rw [hbk.cell]; rfl
  have hku := u8_lt k
  obtain ⟨N, hN⟩ : ∃ N, N = (k :: l).length := ⟨_, rfl⟩
  have HN := Lib.hid hN
  have hN0 : 0 < N := by rw [hN]; simp
  have hN1 : N ≤ 61 := by rw [hN]; simp; omega
  have hN2 : N = l.length + 1 := by rw [hN]; simp
  have HN2 := Lib.hid hN2
  rw [← hN]
  have hrb : RB w1 (some ⟨g, 0, none⟩) (k :: l).length (k :: l) := hbk.reads0 (by simp)
  have HB := Lib.hid hbk
  have HZ := Lib.hid hz1
  have HG := Lib.hid hG1
  have HW := Lib.hid hW1
  have HR := Lib.hid hrb
  clear hN hN2 hf0 hf1 hz0 hz1 hG0 hG1 hW1 hbk Hb hg hrb
  rcases hk with hk1 | hk1
  · have hd1 : decide ((k.toNat : Int) < 1) = true := by simp; omega
    clear hk1
    go_wp2_with fail
    refine (wrap_any _ _ _).mono ?_
    rintro e w8 ⟨rfl, hF, rfl⟩
    have hres : ZM (w1.alloc (.cells (faultCells 0 61) 99)) w.heap.size := HZ.out.alloc _
    have hcz := hres.cell
    have hfz := fun i => Blk.frozen hres i
    have hs1 := hres.same.1
    have hs2 := hres.same.2
    have HF := Lib.hid hF
    have HW8 := Lib.hid (HW.out.alloc (.cells (faultCells 0 61) 99))
    clear hF hres
    generalize w1.alloc _ = w8 at *
    go_wp2
    exact bodyPost_ret (v := .tuple #[msgV zeroM, errV w1.heap.size]) (by simp [results, Tryd.results23, go_sem, hcz]; first | exact ⟨rfl, rfl⟩ | rfl) rfl ⟨_, rfl, HF.out, HW8.out⟩
  · have hd1 : decide ((k.toNat : Int) < 1) = false := by simp; omega
    have hd6 : decide (6 < (k.toNat : Int)) = true := by simp; omega
    clear hk1
    go_wp2_with fail
    refine (wrap_any _ _ _).mono ?_
    rintro e w8 ⟨rfl, hF, rfl⟩
    have hres : ZM (w1.alloc (.cells (faultCells 0 61) 99)) w.heap.size := HZ.out.alloc _
    have hcz := hres.cell
    have hfz := fun i => Blk.frozen hres i
    have hs1 := hres.same.1
    have hs2 := hres.same.2
    have HF := Lib.hid hF
    have HW8 := Lib.hid (HW.out.alloc (.cells (faultCells 0 61) 99))
    clear hF hres
    generalize w1.alloc _ = w8 at *
    go_wp2
    exact bodyPost_ret (v := .tuple #[msgV zeroM, errV w1.heap.size]) (by simp [results, Tryd.results23, go_sem, hcz]; first | exact ⟨rfl, rfl⟩ | rfl) rfl ⟨_, rfl, HF.out, HW8.out⟩

set_option maxHeartbeats 1000000 in
theorem dec_in_len (B : Nat) (A : Option Addr) (n c : Nat) (k : UInt8) (l : List UInt8) (w : World) (hG : Glb B w) (hL : l.length ≤ 60) (h1 : 1 ≤ k.toNat) (h6 : k.toNat ≤ 6) (hne : l.length ≠ lenF (shape k.toNat))
    (hb : ∀ w', Fr None' w w' → Calls Tryd.prog 36 #[.slice A n c] w' fun e w2 => ∃ v, e = .returned (.tuple #[v, .nilIface]) ∧ NewB w' w2 v (k :: l) ∧ Fr None' w' w2) :
    Calls Tryd.prog 23 #[.slice A n c] w fun e w' => ∃ g, e = .returned (.tuple #[msgV zeroM, errV g]) ∧ Fault w' g ((k :: l).length) 62 ∧ Fr None' w w' := by
  have hf0 : Fr None' w (w.alloc (.cells (msgCells zeroM).toArray 25)) := (Fr.refl _ _).alloc _
  have hz0 : ZM (w.alloc (.cells (msgCells zeroM).toArray 25)) w.heap.size := Blk.new _ _ _
  have Hb := Lib.hid (hb _ hf0)
  have hG0 := hG.fr hf0 (fun _ h => h.elim)
  clear hb hG
  have hmz : (msgCells zeroM).toArray = #[.int .i64 0, .int .i64 0, .int .i64 0, .int .i64 0, .int .i64 0, .int .i64 0, .int .i64 0, .int .i64 0, .int .i64 0, .int .i64 0, .int .i64 0, .int .u8 0, .int .i64 0, .int .i64 0] := rfl
  rw [hmz] at hf0 hz0 Hb hG0
  clear hmz
  go_enter Tryd.func23, Tryd.ntmps23
  go_wp2_with fail
  generalize w.alloc _ = W0 at *
  refine Hb.out.mono ?_
  rintro e w1 ⟨v, rfl, ⟨g, hg, rfl, hbk⟩, hf1⟩
  have hz1 : ZM w1 w.heap.size := Blk.fr hz0 hf1 fun h => h
  have hG1 := hG0.fr hf1 (fun _ h => h.elim)
  have hW1 := hf0.trans' hf1
  have hcell0 : w1.cell? ⟨g, 0, none⟩ = some (.int .u8 (k.toNat : Int)) := by rw [hbk.cell]; rfl
  have hku := u8_lt k
  obtain ⟨N, hN⟩ : ∃ N, N = (k :: l).length := ⟨_, rfl⟩
  have HN := Lib.hid hN
  have hN0 : 0 < N := by rw [hN]; simp
  have hN1 : N ≤ 61 := by rw [hN]; simp; omega
  have hN2 : N = l.length + 1 := by rw [hN]; simp
  have HN2 := Lib.hid hN2
  rw [← hN]
  have hrb : RB w1 (some ⟨g, 0, none⟩) (k :: l).length (k :: l) := hbk.reads0 (by simp)
  have HB := Lib.hid hbk
  have HZ := Lib.hid hz1
  have HG := Lib.hid hG1
  have HW := Lib.hid hW1
  have HR := Lib.hid hrb
  clear hN hN2 hf0 hf1 hz0 hz1 hG0 hG1 hW1 hbk Hb hg hrb
  have hk1 : (1 : Int) ≤ (k.toNat : Int) := by omega
  have hk6 : (k.toNat : Int) ≤ 6 := by omega
  have hk7 : (k.toNat : Int) < 7 := by omega
  obtain ⟨A3, c3, hsc, hrn, _⟩ := HG.out.shapes k.toNat (by omega)
  have Hl := Lib.hid (long_any A3 (shape k.toNat).length c3 (shape k.toNat) w1 HG.out.size hrn (fun f hf => (shape_mem _ f hf).2) (by have := shape_len k.toNat; omega))
  have hlo : lenF (shape k.toNat) < 100 := lenF_small _
  have hne1 : ((N : Int) != 1 + (lenF (shape k.toNat) : Int)) = true := by rw [bne_iff_ne]; have := HN2.out; omega
  have hd1 : decide ((k.toNat : Int) < 1) = false := by simp; omega
  have hd6 : decide (6 < (k.toNat : Int)) = false := by simp; omega
  generalize lenF (shape k.toNat) = q at *
  clear hne hrn
  go_wp2_with (go_at_call 37; refine Hl.out.mono ?_; rintro e w7 ⟨rfl, rfl⟩)
  refine (wrap_any _ _ _).mono ?_
  rintro e w8 ⟨rfl, hF, rfl⟩
  have hres : ZM (w1.alloc (.cells (faultCells (N : Int) 62) 99)) w.heap.size := HZ.out.alloc _
  have hcz := hres.cell
  have hfz := fun i => Blk.frozen hres i
  have hs1 := hres.same.1
  have hs2 := hres.same.2
  have HF := Lib.hid hF
  have HW8 := Lib.hid (HW.out.alloc (.cells (faultCells (N : Int) 62) 99))
  clear hF hres
  generalize w1.alloc _ = w8 at *
  go_wp2
  exact bodyPost_ret (v := .tuple #[msgV zeroM, errV w1.heap.size]) (by simp [results, Tryd.results23, go_sem, hcz]; first | exact ⟨rfl, rfl⟩ | rfl) rfl ⟨_, rfl, by rw [← HN2.out]; exact HF.out, HW8.out⟩

theorem getN_nonneg (xs : List UInt8) (p n : Nat) : 0 ≤ getN xs p n := by
  unfold getN
  split <;> omega
theorem pickF_nonneg {xs : List UInt8} {own : Bool} {v' : V} : ∀ (sh : List Nat) (p : Nat) (v : V), (∀ i, 0 ≤ v i) → pickF xs own sh p v = .ok v' → ∀ i, 0 ≤ v' i
  | [], p, v, h, he => by
    cases he
    exact h
  | f :: sh, p, v, h, he => by
    unfold pickF at he
    generalize mayB f _ _ = b at he
    cases b with
    | true =>
      rw [if_pos rfl] at he
      refine pickF_nonneg sh _ _ (fun i => ?_) he
      unfold setV
      split
      · exact getN_nonneg _ _ _
      · exact h i
    | false =>
      rw [if_neg (by simp)] at he
      cases he
/-- The fields ahead of the last ones are read: what pick has said. -/
def InPost (w : World) (xs : List UInt8) (k : UInt8) (e : Ending) (w' : World) : Prop :=
  match pickF xs (decide (k.toNat = 2)) (shape k.toNat) 1 (setV zeroV 0 (k.toNat : Int)) with
  | .ok v => e = .returned (.tuple #[msgV (msgOf (k.toNat : Int) v), .nilIface]) ∧ Fr None' w w'
  | .error p => ∃ g, e = .returned (.tuple #[msgV zeroM, errV g]) ∧ Fault w' g (p : Int) 63 ∧ Fr None' w w'

set_option maxHeartbeats 4000000 in
theorem dec_in_pick (B : Nat) (A : Option Addr) (n c : Nat) (k : UInt8) (l : List UInt8) (w : World) (hG : Glb B w) (hL : l.length ≤ 60) (h1 : 1 ≤ k.toNat) (h6 : k.toNat ≤ 6) (hne : l.length = lenF (shape k.toNat))
    (hb : ∀ w', Fr None' w w' → Calls Tryd.prog 36 #[.slice A n c] w' fun e w2 => ∃ v, e = .returned (.tuple #[v, .nilIface]) ∧ NewB w' w2 v (k :: l) ∧ Fr None' w' w2) :
    Calls Tryd.prog 23 #[.slice A n c] w (InPost w (k :: l) k) := by
  have hf0 : Fr None' w (w.alloc (.cells (msgCells zeroM).toArray 25)) := (Fr.refl _ _).alloc _
  have hz0 : ZM (w.alloc (.cells (msgCells zeroM).toArray 25)) w.heap.size := Blk.new _ _ _
  have Hb := Lib.hid (hb _ hf0)
  have hG0 := hG.fr hf0 (fun _ h => h.elim)
  clear hb hG
  have hmz : (msgCells zeroM).toArray = #[.int .i64 0, .int .i64 0, .int .i64 0, .int .i64 0, .int .i64 0, .int .i64 0, .int .i64 0, .int .i64 0, .int .i64 0, .int .i64 0, .int .i64 0, .int .u8 0, .int .i64 0, .int .i64 0] := rfl
  rw [hmz] at hf0 hz0 Hb hG0
  clear hmz
  go_enter Tryd.func23, Tryd.ntmps23
  go_wp2_with fail
  generalize w.alloc _ = W0 at *
  refine Hb.out.mono ?_
  rintro e w1 ⟨v, rfl, ⟨g, hg, rfl, hbk⟩, hf1⟩
  have hz1 : ZM w1 w.heap.size := Blk.fr hz0 hf1 fun h => h
  have hG1 := hG0.fr hf1 (fun _ h => h.elim)
  have hW1 := hf0.trans' hf1
  have hcell0 : w1.cell? ⟨g, 0, none⟩ = some (.int .u8 (k.toNat : Int)) := by rw [hbk.cell]; rfl
  have hku := u8_lt k
  obtain ⟨N, hN⟩ : ∃ N, N = (k :: l).length := ⟨_, rfl⟩
  have HN := Lib.hid hN
  have hN0 : 0 < N := by rw [hN]; simp
  have hN1 : N ≤ 61 := by rw [hN]; simp; omega
  have hN2 : N = l.length + 1 := by rw [hN]; simp
  have HN2 := Lib.hid hN2
  rw [← hN]
  have hrb : RB w1 (some ⟨g, 0, none⟩) (k :: l).length (k :: l) := hbk.reads0 (by simp)
  have HB := Lib.hid hbk
  have HZ := Lib.hid hz1
  have HG := Lib.hid hG1
  have HW := Lib.hid hW1
  have HR := Lib.hid hrb
  clear hN hN2 hf0 hf1 hz0 hz1 hG0 hG1 hW1 hbk Hb hg hrb
  have hk1 : (1 : Int) ≤ (k.toNat : Int) := by omega
  have hk6 : (k.toNat : Int) ≤ 6 := by omega
  have hk7 : (k.toNat : Int) < 7 := by omega
  obtain ⟨A3, c3, hsc, hrn, _⟩ := HG.out.shapes k.toNat (by omega)
  have Hl := Lib.hid (long_any A3 (shape k.toNat).length c3 (shape k.toNat) w1 HG.out.size hrn (fun f hf => (shape_mem _ f hf).2) (by have := shape_len k.toNat; omega))
  have hlo : lenF (shape k.toNat) < 100 := lenF_small _
  have hne1 : ((N : Int) != 1 + (lenF (shape k.toNat) : Int)) = false := by rw [bne_eq_false_iff_eq]; have := HN2.out; omega
  have hd1 : decide ((k.toNat : Int) < 1) = false := by simp; omega
  have hd6 : decide (6 < (k.toNat : Int)) = false := by simp; omega
  have Hp := Lib.hid (pick_any (some ⟨g, 0, none⟩) A3 N N (shape k.toNat).length c3 (k :: l) (shape k.toNat) (decide (k.toNat = 2)) w1 HG.out.size (by have := HR.out; rw [← HN.out] at this; exact this) hrn (fun f hf => (shape_mem _ f hf).2) (by have := HN2.out; omega) (by omega) (by have := shape_len k.toNat; omega))
  have HQ : Hid ((((k :: l)[0]?).getD 0).toNat = k.toNat) := by
    show (((k :: l)[0]?).getD 0).toNat = k.toNat
    rfl
  rw [HQ.out] at Hp
  have hkb : ((k.toNat : Int) == 2) = decide (k.toNat = 2) := by
    by_cases h : k.toNat = 2
    · simp [h]
    · simp [h]; omega
  generalize lenF (shape k.toNat) = q at *
  clear hne hrn
  unfold PickPost at Hp
  obtain ⟨res, hres⟩ : ∃ res, res = pickF (k :: l) (decide (k.toNat = 2)) (shape k.toNat) 1 (setV zeroV 0 (k.toNat : Int)) := ⟨_, rfl⟩
  rw [← hres] at Hp
  have HRES := Lib.hid hres
  clear hres
  go_wp2_with (go_at_call 37; refine Hl.out.mono ?_; rintro e w7 ⟨rfl, rfl⟩)
  cases res with
  | error p =>
    refine Hp.out.mono ?_
    rintro e w2 ⟨g2, rfl, hF, hf2⟩
    have hst : (storeCells ⟨w2.heap.size, 0, none⟩ (vcells zeroV).toList).run Tryd.prog (w2.alloc (.cells #[.int .i64 0, .int .i64 0, .int .i64 0, .int .i64 0, .int .i64 0, .int .i64 0, .int .i64 0, .int .i64 0, .int .i64 0, .int .i64 0, .int .i64 0, .int .i64 0, .int .i64 0, .int .i64 0] 85)) = .ok () ((w2.alloc (.cells #[.int .i64 0, .int .i64 0, .int .i64 0, .int .i64 0, .int .i64 0, .int .i64 0, .int .i64 0, .int .i64 0, .int .i64 0, .int .i64 0, .int .i64 0, .int .i64 0, .int .i64 0, .int .i64 0] 85)).setRow w2.heap.size (vcells zeroV)) := run_store_vals (Blk.new w2 85 (vcells zeroV)) rfl zeroV
    have hvs : (vcells zeroV).size = 14 := rfl
    have hz2 : ZM w2 w.heap.size := Blk.fr HZ.out hf2 fun h => h
    have hlt2 : w.heap.size < w2.heap.size := Blk.lt hz2
    have hz3 : ZM ((w2.alloc (.cells #[.int .i64 0, .int .i64 0, .int .i64 0, .int .i64 0, .int .i64 0, .int .i64 0, .int .i64 0, .int .i64 0, .int .i64 0, .int .i64 0, .int .i64 0, .int .i64 0, .int .i64 0, .int .i64 0] 85)).setRow w2.heap.size (vcells zeroV)) w.heap.size := Blk.setRow_far (Blk.alloc hz2 _) (by omega) _
    have hv3 : Vals ((w2.alloc (.cells #[.int .i64 0, .int .i64 0, .int .i64 0, .int .i64 0, .int .i64 0, .int .i64 0, .int .i64 0, .int .i64 0, .int .i64 0, .int .i64 0, .int .i64 0, .int .i64 0, .int .i64 0, .int .i64 0] 85)).setRow w2.heap.size (vcells zeroV)) w2.heap.size zeroV := Blk.setRow (Blk.new w2 85 (vcells zeroV)) _
    have hw3 : Fr None' w ((w2.alloc (.cells #[.int .i64 0, .int .i64 0, .int .i64 0, .int .i64 0, .int .i64 0, .int .i64 0, .int .i64 0, .int .i64 0, .int .i64 0, .int .i64 0, .int .i64 0, .int .i64 0, .int .i64 0, .int .i64 0] 85)).setRow w2.heap.size (vcells zeroV)) := Fr.setRow ((HW.out.trans' hf2).alloc _) (.inl (by omega)) _
    have hF3 : Fault ((w2.alloc (.cells #[.int .i64 0, .int .i64 0, .int .i64 0, .int .i64 0, .int .i64 0, .int .i64 0, .int .i64 0, .int .i64 0, .int .i64 0, .int .i64 0, .int .i64 0, .int .i64 0, .int .i64 0, .int .i64 0] 85)).setRow w2.heap.size (vcells zeroV)) g2 (p : Int) 63 := Blk.setRow_far (hF.alloc _) (by have := hF.lt; omega) _
    have HZ3 := Lib.hid hz3
    have HW3 := Lib.hid hw3
    have HF3 := Lib.hid hF3
    clear hz2 hz3 hv3 hw3 hF hF3 hf2
    unfold errV at *
    go_upto_if 51 with (fail)
    clear hst
    generalize (w2.alloc _).setRow _ _ = w3 at *
    have hcz := HZ3.out.cell
    have hfz := fun i => Blk.frozen HZ3.out i
    have hs1 := HZ3.out.same.1
    have hs2 := HZ3.out.same.2
    go_wp2
    exact bodyPost_ret (v := .tuple #[msgV zeroM, errV g2]) (by simp [results, Tryd.results23, go_sem, hcz]; first | exact ⟨rfl, rfl⟩ | rfl) rfl (by unfold InPost; rw [← HRES.out]; exact ⟨_, rfl, HF3.out, HW3.out⟩)
  | ok v =>
    refine Hp.out.mono ?_
    rintro e w2 ⟨rfl, hf2⟩
    have hst : (storeCells ⟨w2.heap.size, 0, none⟩ (vcells v).toList).run Tryd.prog (w2.alloc (.cells #[.int .i64 0, .int .i64 0, .int .i64 0, .int .i64 0, .int .i64 0, .int .i64 0, .int .i64 0, .int .i64 0, .int .i64 0, .int .i64 0, .int .i64 0, .int .i64 0, .int .i64 0, .int .i64 0] 85)) = .ok () ((w2.alloc (.cells #[.int .i64 0, .int .i64 0, .int .i64 0, .int .i64 0, .int .i64 0, .int .i64 0, .int .i64 0, .int .i64 0, .int .i64 0, .int .i64 0, .int .i64 0, .int .i64 0, .int .i64 0, .int .i64 0] 85)).setRow w2.heap.size (vcells v)) := run_store_vals (Blk.new w2 85 (vcells zeroV)) rfl v
    have hvs : (vcells v).size = 14 := rfl
    have hz2 : ZM w2 w.heap.size := Blk.fr HZ.out hf2 fun h => h
    have hlt2 : w.heap.size < w2.heap.size := Blk.lt hz2
    have hz3 : ZM ((w2.alloc (.cells #[.int .i64 0, .int .i64 0, .int .i64 0, .int .i64 0, .int .i64 0, .int .i64 0, .int .i64 0, .int .i64 0, .int .i64 0, .int .i64 0, .int .i64 0, .int .i64 0, .int .i64 0, .int .i64 0] 85)).setRow w2.heap.size (vcells v)) w.heap.size := Blk.setRow_far (Blk.alloc hz2 _) (by omega) _
    have hv3 : Vals ((w2.alloc (.cells #[.int .i64 0, .int .i64 0, .int .i64 0, .int .i64 0, .int .i64 0, .int .i64 0, .int .i64 0, .int .i64 0, .int .i64 0, .int .i64 0, .int .i64 0, .int .i64 0, .int .i64 0, .int .i64 0] 85)).setRow w2.heap.size (vcells v)) w2.heap.size v := Blk.setRow (Blk.new w2 85 (vcells zeroV)) _
    have hw3 : Fr None' w ((w2.alloc (.cells #[.int .i64 0, .int .i64 0, .int .i64 0, .int .i64 0, .int .i64 0, .int .i64 0, .int .i64 0, .int .i64 0, .int .i64 0, .int .i64 0, .int .i64 0, .int .i64 0, .int .i64 0, .int .i64 0] 85)).setRow w2.heap.size (vcells v)) := Fr.setRow ((HW.out.trans' hf2).alloc _) (.inl (by omega)) _
    have HZ3 := Lib.hid hz3
    have HW3 := Lib.hid hw3
    have HV3 := Lib.hid hv3
    clear hz2 hz3 hv3 hw3 hf2
    have HNE := Lib.hid (Nat.ne_of_gt hlt2)
    go_upto_if 51 with (fail)
    clear hst
    generalize (w2.alloc _).setRow _ _ = w3 at *
    generalize w2.heap.size = g7 at *
    have h11 : 0 ≤ v 11 := pickF_nonneg _ _ _ (fun i => by unfold setV zeroV; split <;> omega) HRES.out.symm 11
    have hoV : opV (opOf v) = .agg #[.int .i64 (v 9), .int .i64 (v 10), .int .u8 (v 11 % 256), .int .i64 (v 12), .int .i64 (v 13)] := by
      unfold opV opCells opOf
      rw [ch_of _ h11]
    have hmV : msgV (msgOf (k.toNat : Int) v) = .agg #[.int .i64 (k.toNat : Int), .int .i64 (v 1), .int .i64 (v 2), .int .i64 (v 3), .int .i64 (v 4), .int .i64 (v 5), .int .i64 (v 6), .int .i64 (v 7), .int .i64 (v 8), .int .i64 (v 9), .int .i64 (v 10), .int .u8 (v 11 % 256), .int .i64 (v 12), .int .i64 (v 13)] := by
      unfold msgV msgCells opCells msgOf opOf
      rw [ch_of _ h11]
      rfl
    have Ho := Lib.hid fun w' (h : Fr (Only w.heap.size) w3 w') => vop_any g7 v w' (HV3.out.fr h fun h => HNE.out h) h11
    rw [hoV] at Ho
    have HMV := Lib.hid hmV
    clear h11 hoV hmV
    have hgz : g7 ≠ w.heap.size := HNE.out
    have hcv : ∀ (x : LaterM (Only w.heap.size) w3) i, x.w.cell? ⟨g7, i, none⟩ = (#[.int .i64 (v 0), .int .i64 (v 1), .int .i64 (v 2), .int .i64 (v 3), .int .i64 (v 4), .int .i64 (v 5), .int .i64 (v 6), .int .i64 (v 7), .int .i64 (v 8), .int .i64 (v 9), .int .i64 (v 10), .int .i64 (v 11), .int .i64 (v 12), .int .i64 (v 13)] : Array Value)[i]? := fun x => Blk.cell (HV3.out.fr x.fr fun h => HNE.out h)
    go_wp2_with fail
    refine wp_region_M (Only w.heap.size) (by kernel_rfl) ?_
    refine wpM_heads 17 0 4 (by kernel_rfl) (by kernel_rfl) ?_ (by kernel_rfl)
    simp only [List.take_succ_cons, List.take_zero, List.drop_zero]
    repeat (go_big_quiet_step (fail))
    refine wpQuiet_nil ?_
    refine wpM_call (by kernel_rfl) 17 71 rfl rfl (by kernel_rfl) rfl _ _ _ (by intro w; simp [go_sem]) Ho.out ?_
    simp only [List.set_cons_succ, List.set_cons_zero]
    refine wpM_heads 1 18 2 (by kernel_rfl) (by kernel_rfl) ?_ (by kernel_rfl)
    simp only [List.take_succ_cons, List.take_zero, List.drop_succ_cons, List.drop_zero]
    repeat (go_big_quiet_step (fail))
    refine wpQuiet_nil ?_
    clear hcv Ho
    refine wpM_step 19 rfl (by kernel_rfl) (fun w4 hw4 hw4' => ?_)
    have hz4 : ZM w4 w.heap.size := Blk.fr (Blk.drew HZ3.out) hw4' fun h => h
    have hcz := hz4.cell
    have hfz := fun i => Blk.frozen hz4 i
    have HW4 := Lib.hid (HW3.out.trans hw4 fun i hi hs => by unfold Only at hs; omega)
    have Hw4 := Lib.hid hw4
    have HZ4 := Lib.hid hz4
    clear hw4 hw4' hz4
    go_wp2_with fail
    refine ⟨MC.mk ?_, ?_⟩
    · iterate 14 refine Fr.setCell (S := Only w.heap.size) ?_ (.inr (show w.heap.size = w.heap.size from rfl)) _
      exact Hw4.out
    refine wpM_step 20 rfl (by kernel_rfl) (fun w5 hw5 hw5' => ?_)
    have hlt4 : w.heap.size < w4.heap.size := lt_of_cell (hcz 0)
    have B0 : Blk _ w.heap.size 25 #[.int .i64 (k.toNat : Int), .int .i64 0, .int .i64 0, .int .i64 0, .int .i64 0, .int .i64 0, .int .i64 0, .int .i64 0, .int .i64 0, .int .i64 0, .int .i64 0, .int .u8 0, .int .i64 0, .int .i64 0] := Blk.set_ HZ4.out 0 (.int .i64 (k.toNat : Int))
    have B1 : Blk _ w.heap.size 25 #[.int .i64 (k.toNat : Int), .int .i64 (v 1), .int .i64 0, .int .i64 0, .int .i64 0, .int .i64 0, .int .i64 0, .int .i64 0, .int .i64 0, .int .i64 0, .int .i64 0, .int .u8 0, .int .i64 0, .int .i64 0] := Blk.set_ B0 1 (.int .i64 (v 1))
    have B2 : Blk _ w.heap.size 25 #[.int .i64 (k.toNat : Int), .int .i64 (v 1), .int .i64 (v 2), .int .i64 0, .int .i64 0, .int .i64 0, .int .i64 0, .int .i64 0, .int .i64 0, .int .i64 0, .int .i64 0, .int .u8 0, .int .i64 0, .int .i64 0] := Blk.set_ B1 2 (.int .i64 (v 2))
    have B3 : Blk _ w.heap.size 25 #[.int .i64 (k.toNat : Int), .int .i64 (v 1), .int .i64 (v 2), .int .i64 (v 3), .int .i64 0, .int .i64 0, .int .i64 0, .int .i64 0, .int .i64 0, .int .i64 0, .int .i64 0, .int .u8 0, .int .i64 0, .int .i64 0] := Blk.set_ B2 3 (.int .i64 (v 3))
    have B4 : Blk _ w.heap.size 25 #[.int .i64 (k.toNat : Int), .int .i64 (v 1), .int .i64 (v 2), .int .i64 (v 3), .int .i64 (v 4), .int .i64 0, .int .i64 0, .int .i64 0, .int .i64 0, .int .i64 0, .int .i64 0, .int .u8 0, .int .i64 0, .int .i64 0] := Blk.set_ B3 4 (.int .i64 (v 4))
    have B5 : Blk _ w.heap.size 25 #[.int .i64 (k.toNat : Int), .int .i64 (v 1), .int .i64 (v 2), .int .i64 (v 3), .int .i64 (v 4), .int .i64 (v 5), .int .i64 0, .int .i64 0, .int .i64 0, .int .i64 0, .int .i64 0, .int .u8 0, .int .i64 0, .int .i64 0] := Blk.set_ B4 5 (.int .i64 (v 5))
    have B6 : Blk _ w.heap.size 25 #[.int .i64 (k.toNat : Int), .int .i64 (v 1), .int .i64 (v 2), .int .i64 (v 3), .int .i64 (v 4), .int .i64 (v 5), .int .i64 (v 6), .int .i64 0, .int .i64 0, .int .i64 0, .int .i64 0, .int .u8 0, .int .i64 0, .int .i64 0] := Blk.set_ B5 6 (.int .i64 (v 6))
    have B7 : Blk _ w.heap.size 25 #[.int .i64 (k.toNat : Int), .int .i64 (v 1), .int .i64 (v 2), .int .i64 (v 3), .int .i64 (v 4), .int .i64 (v 5), .int .i64 (v 6), .int .i64 (v 7), .int .i64 0, .int .i64 0, .int .i64 0, .int .u8 0, .int .i64 0, .int .i64 0] := Blk.set_ B6 7 (.int .i64 (v 7))
    have B8 : Blk _ w.heap.size 25 #[.int .i64 (k.toNat : Int), .int .i64 (v 1), .int .i64 (v 2), .int .i64 (v 3), .int .i64 (v 4), .int .i64 (v 5), .int .i64 (v 6), .int .i64 (v 7), .int .i64 (v 8), .int .i64 0, .int .i64 0, .int .u8 0, .int .i64 0, .int .i64 0] := Blk.set_ B7 8 (.int .i64 (v 8))
    have B9 : Blk _ w.heap.size 25 #[.int .i64 (k.toNat : Int), .int .i64 (v 1), .int .i64 (v 2), .int .i64 (v 3), .int .i64 (v 4), .int .i64 (v 5), .int .i64 (v 6), .int .i64 (v 7), .int .i64 (v 8), .int .i64 (v 9), .int .i64 0, .int .u8 0, .int .i64 0, .int .i64 0] := Blk.set_ B8 9 (.int .i64 (v 9))
    have B10 : Blk _ w.heap.size 25 #[.int .i64 (k.toNat : Int), .int .i64 (v 1), .int .i64 (v 2), .int .i64 (v 3), .int .i64 (v 4), .int .i64 (v 5), .int .i64 (v 6), .int .i64 (v 7), .int .i64 (v 8), .int .i64 (v 9), .int .i64 (v 10), .int .u8 0, .int .i64 0, .int .i64 0] := Blk.set_ B9 10 (.int .i64 (v 10))
    have B11 : Blk _ w.heap.size 25 #[.int .i64 (k.toNat : Int), .int .i64 (v 1), .int .i64 (v 2), .int .i64 (v 3), .int .i64 (v 4), .int .i64 (v 5), .int .i64 (v 6), .int .i64 (v 7), .int .i64 (v 8), .int .i64 (v 9), .int .i64 (v 10), .int .u8 (v 11 % 256), .int .i64 0, .int .i64 0] := Blk.set_ B10 11 (.int .u8 (v 11 % 256))
    have B12 : Blk _ w.heap.size 25 #[.int .i64 (k.toNat : Int), .int .i64 (v 1), .int .i64 (v 2), .int .i64 (v 3), .int .i64 (v 4), .int .i64 (v 5), .int .i64 (v 6), .int .i64 (v 7), .int .i64 (v 8), .int .i64 (v 9), .int .i64 (v 10), .int .u8 (v 11 % 256), .int .i64 (v 12), .int .i64 0] := Blk.set_ B11 12 (.int .i64 (v 12))
    have B13 : Blk _ w.heap.size 25 #[.int .i64 (k.toNat : Int), .int .i64 (v 1), .int .i64 (v 2), .int .i64 (v 3), .int .i64 (v 4), .int .i64 (v 5), .int .i64 (v 6), .int .i64 (v 7), .int .i64 (v 8), .int .i64 (v 9), .int .i64 (v 10), .int .u8 (v 11 % 256), .int .i64 (v 12), .int .i64 (v 13)] := Blk.set_ B12 13 (.int .i64 (v 13))
    have HB5 := Lib.hid (Blk.fr B13 hw5' fun h => h)
    clear B0 B1 B2 B3 B4 B5 B6 B7 B8 B9 B10 B11 B12 B13
    have Hw5 := Lib.hid hw5
    clear hw5 hw5'
    go_wp2_with fail
    refine ⟨MC.mk Hw5.out, wpM_done (by kernel_rfl) (fun w6 hw6 hw6' => ?_)⟩
    have HW6 := Lib.hid (HW3.out.trans hw6 fun i hi hs => by unfold Only at hs; omega)
    have hc6 : ∀ i, w6.cell? ⟨w.heap.size, i, none⟩ = (#[.int .i64 (k.toNat : Int), .int .i64 (v 1), .int .i64 (v 2), .int .i64 (v 3), .int .i64 (v 4), .int .i64 (v 5), .int .i64 (v 6), .int .i64 (v 7), .int .i64 (v 8), .int .i64 (v 9), .int .i64 (v 10), .int .u8 (v 11 % 256), .int .i64 (v 12), .int .i64 (v 13)] : Array Value)[i]? := by
      intro i
      exact Blk.cell (Blk.fr HB5.out hw6' fun h => h) i
    clear hw6 hw6' hcz hfz
    go_wp2_with fail
    exact bodyPost_ret (v := .tuple #[msgV (msgOf (k.toNat : Int) v), .nilIface]) (by rw [HMV.out]; simp [results, Tryd.results23, go_sem, hc6]) rfl (by unfold InPost; rw [← HRES.out]; exact ⟨rfl, HW6.out⟩)
end Go.Proofs.YtodkhoclbhdihaaDoor
