/-
  Contract of wire's Decode.
-/
import Derived.Test.YtodkhoclbhdihaaGreatDoorZ6
import Derived.Test.YtodkhoclbhdihaaGreatDoorZ3
import Derived.Deep.Cut
import Derived.Test.YtodkhoclbhdihaaGreatDoorZ9
namespace Go.Proofs.YtodkhoclbhdihaaGreatDoor
open Go.RowKit

def zeroM : GMsg := ⟨0, 0, 0, 0, 0, 0, 0, 0, 0, ⟨0, 0, 0, 0, 0⟩⟩
/-- What Decode answers. -/
def DecPost (w : World) (xs : List UInt8) (e : Ending) (w' : World) : Prop :=
  match decF xs with
  | .ok m => e = .returned (.tuple #[msgV m, .nilIface]) ∧ Fr None' w w'
  | .error (c, a) => ∃ g, e = .returned (.tuple #[msgV zeroM, errV g]) ∧ Fault w' g a c ∧ Fr None' w w'

/-- A block that a message's zero value fills. -/
def ZM (w : World) (g : Nat) : Prop := Blk w g 28 (msgCells zeroM).toArray
theorem ZM.cell {w : World} {g : Nat} (h : ZM w g) : ∀ i, w.cell? ⟨g, i, none⟩ = (#[.int .i64 0, .int .i64 0, .int .i64 0, .int .i64 0, .int .i64 0, .int .i64 0, .int .i64 0, .int .i64 0, .int .i64 0, .int .i64 0, .int .i64 0, .int .u8 0, .int .i64 0, .int .i64 0] : Array Value)[i]? := fun i => Blk.cell h i
theorem ZM.same {w : World} {g : Nat} (h : ZM w g) : (∀ i, i < 14 → i ≠ 11 → w.setCell ⟨g, i, none⟩ (.int .i64 0) = w) ∧ w.setCell ⟨g, 11, none⟩ (.int .u8 0) = w := by
  refine ⟨fun i hi hn => setCell_same ?_, setCell_same ?_⟩
  · rw [h.cell]
    match i, hi, hn with
    | 0, _, _ | 1, _, _ | 2, _, _ | 3, _, _ | 4, _, _ | 5, _, _ | 6, _, _ | 7, _, _ | 8, _, _ | 9, _, _ | 10, _, _ | 12, _, _ | 13, _, _ => rfl
  · rw [h.cell]
    rfl

theorem lenF_small (k : Nat) : lenF (shape k) < 100 := by
  match k with
  | 0 | 1 | 2 | 3 | 4 | 5 | 6 => decide
  | k + 7 => simp [shape, lenF]
theorem dec_err (A : Option Addr) (n c : Nat) (code at_ : Int) (w : World)
    (hb : ∀ w', Fr None' w w' → Calls Tryz.prog 70 #[.slice A n c] w' (ErrPost (.slice none 0 0) w' code at_)) :
    Calls Tryz.prog 40 #[.slice A n c] w fun e w' => ∃ g, e = .returned (.tuple #[msgV zeroM, errV g]) ∧ Fault w' g at_ code ∧ Fr None' w w' := by
  have hf0 : Fr None' w (w.alloc (.cells (msgCells zeroM).toArray 28)) := (Fr.refl _ _).alloc _
  have hz0 : ZM (w.alloc (.cells (msgCells zeroM).toArray 28)) w.heap.size := Blk.new _ _ _
  have Hb := Lib.hid (hb _ hf0)
  clear hb
  have hmz : (msgCells zeroM).toArray = #[.int .i64 0, .int .i64 0, .int .i64 0, .int .i64 0, .int .i64 0, .int .i64 0, .int .i64 0, .int .i64 0, .int .i64 0, .int .i64 0, .int .i64 0, .int .u8 0, .int .i64 0, .int .i64 0] := rfl
  rw [hmz] at hf0 hz0 Hb
  clear hmz
  go_enter Tryz.func40, Tryz.ntmps40
  go_wp2_with fail
  generalize w.alloc _ = W0 at *
  refine Hb.out.mono ?_
  rintro e w1 ⟨g, rfl, hF, hf1⟩
  have hz1 : ZM w1 w.heap.size := Blk.fr hz0 hf1 fun h => h
  have hcz := hz1.cell
  have hfz := fun i => Blk.frozen hz1 i
  have hs1 := hz1.same.1
  have hs2 := hz1.same.2
  have HF := Lib.hid hF
  have HW := Lib.hid (hf0.trans' hf1)
  clear hF hf0 hf1 hz0 hz1
  unfold errV at *
  go_wp2
  exact bodyPost_ret (v := .tuple #[msgV zeroM, errV g]) (by simp [results, Tryz.results40, go_sem, hcz]; exact ⟨rfl, rfl⟩) rfl ⟨g, rfl, HF.out, HW.out⟩
/-- Where the sum is right and something stands ahead of it. -/
theorem dec_in_kind (B : Nat) (A : Option Addr) (n c : Nat) (k : UInt8) (l : List UInt8) (w : World) (hG : Glb B w) (hL : l.length ≤ 60) (hk : k.toNat < 1 ∨ 6 < k.toNat)
    (hb : ∀ w', Fr None' w w' → Calls Tryz.prog 70 #[.slice A n c] w' fun e w2 => ∃ v, e = .returned (.tuple #[v, .nilIface]) ∧ NewB w' w2 v (k :: l) ∧ Fr None' w' w2) :
    Calls Tryz.prog 40 #[.slice A n c] w fun e w' => ∃ g, e = .returned (.tuple #[msgV zeroM, errV g]) ∧ Fault w' g (0) 61 ∧ Fr None' w w' := by
  have hf0 : Fr None' w (w.alloc (.cells (msgCells zeroM).toArray 28)) := (Fr.refl _ _).alloc _
  have hz0 : ZM (w.alloc (.cells (msgCells zeroM).toArray 28)) w.heap.size := Blk.new _ _ _
  have Hb := Lib.hid (hb _ hf0)
  have hG0 := hG.fr hf0 (fun _ h => h.elim)
  clear hb hG
  have hmz : (msgCells zeroM).toArray = #[.int .i64 0, .int .i64 0, .int .i64 0, .int .i64 0, .int .i64 0, .int .i64 0, .int .i64 0, .int .i64 0, .int .i64 0, .int .i64 0, .int .i64 0, .int .u8 0, .int .i64 0, .int .i64 0] := rfl
  rw [hmz] at hf0 hz0 Hb hG0
  clear hmz
  go_enter Tryz.func40, Tryz.ntmps40
  go_wp2_with fail
  generalize w.alloc _ = W0 at *
  refine Hb.out.mono ?_
  rintro e w1 ⟨v, rfl, ⟨g, hg, rfl, hbk⟩, hf1⟩
  have hz1 : ZM w1 w.heap.size := Blk.fr hz0 hf1 fun h => h
  have hG1 := hG0.fr hf1 (fun _ h => h.elim)
  have hW1 := hf0.trans' hf1
  have hcell0 : w1.cell? ⟨g, 0, none⟩ = some (.int .u8 (k.toNat : Int)) := by rw [hbk.cell]; rfl
  have hku := u8_lt k
  obtain ⟨N, hN⟩ : ∃ N, N = (k :: l).length := ⟨_, rfl⟩
  have HN := Lib.hid hN
  have hN0 : 0 < N := by rw [hN]; simp
  have hN1 : N ≤ 61 := by rw [hN]; simp; omega
  have hN2 : N = l.length + 1 := by rw [hN]; simp
  have HN2 := Lib.hid hN2
  rw [← hN]
  have hrb : RB w1 (some ⟨g, 0, none⟩) (k :: l).length (k :: l) := hbk.reads0 (by simp)
  have HB := Lib.hid hbk
  have HZ := Lib.hid hz1
  have HG := Lib.hid hG1
  have HW := Lib.hid hW1
  have HR := Lib.hid hrb
  clear hN hN2 hf0 hf1 hz0 hz1 hG0 hG1 hW1 hbk Hb hg hrb
  rcases hk with hk1 | hk1
  · have hd1 : decide ((k.toNat : Int) < 1) = true := by simp; omega
    clear hk1
    go_wp2_with fail
    refine (wrap_any _ _ _).mono ?_
    rintro e w8 ⟨rfl, hF, rfl⟩
    have hres : ZM (w1.alloc (.cells (faultCells 0 61) 148)) w.heap.size := HZ.out.alloc _
    have hcz := hres.cell
    have hfz := fun i => Blk.frozen hres i
    have hs1 := hres.same.1
    have hs2 := hres.same.2
    have HF := Lib.hid hF
    have HW8 := Lib.hid (HW.out.alloc (.cells (faultCells 0 61) 148))
    clear hF hres
    generalize w1.alloc _ = w8 at *
    go_wp2
    exact bodyPost_ret (v := .tuple #[msgV zeroM, errV w1.heap.size]) (by simp [results, Tryz.results40, go_sem, hcz]; first | exact ⟨rfl, rfl⟩ | rfl) rfl ⟨_, rfl, HF.out, HW8.out⟩
  · have hd1 : decide ((k.toNat : Int) < 1) = false := by simp; omega
    have hd6 : decide (6 < (k.toNat : Int)) = true := by simp; omega
    clear hk1
    go_wp2_with fail
    refine (wrap_any _ _ _).mono ?_
    rintro e w8 ⟨rfl, hF, rfl⟩
    have hres : ZM (w1.alloc (.cells (faultCells 0 61) 148)) w.heap.size := HZ.out.alloc _
    have hcz := hres.cell
    have hfz := fun i => Blk.frozen hres i
    have hs1 := hres.same.1
    have hs2 := hres.same.2
    have HF := Lib.hid hF
    have HW8 := Lib.hid (HW.out.alloc (.cells (faultCells 0 61) 148))
    clear hF hres
    generalize w1.alloc _ = w8 at *
    go_wp2
    exact bodyPost_ret (v := .tuple #[msgV zeroM, errV w1.heap.size]) (by simp [results, Tryz.results40, go_sem, hcz]; first | exact ⟨rfl, rfl⟩ | rfl) rfl ⟨_, rfl, HF.out, HW8.out⟩

set_option maxHeartbeats 1000000 in
theorem dec_in_len (B : Nat) (A : Option Addr) (n c : Nat) (k : UInt8) (l : List UInt8) (w : World) (hG : Glb B w) (hL : l.length ≤ 60) (h1 : 1 ≤ k.toNat) (h6 : k.toNat ≤ 6) (hne : l.length ≠ lenF (shape k.toNat))
    (hb : ∀ w', Fr None' w w' → Calls Tryz.prog 70 #[.slice A n c] w' fun e w2 => ∃ v, e = .returned (.tuple #[v, .nilIface]) ∧ NewB w' w2 v (k :: l) ∧ Fr None' w' w2) :
    Calls Tryz.prog 40 #[.slice A n c] w fun e w' => ∃ g, e = .returned (.tuple #[msgV zeroM, errV g]) ∧ Fault w' g ((k :: l).length) 62 ∧ Fr None' w w' := by
  have hf0 : Fr None' w (w.alloc (.cells (msgCells zeroM).toArray 28)) := (Fr.refl _ _).alloc _
  have hz0 : ZM (w.alloc (.cells (msgCells zeroM).toArray 28)) w.heap.size := Blk.new _ _ _
  have Hb := Lib.hid (hb _ hf0)
  have hG0 := hG.fr hf0 (fun _ h => h.elim)
  clear hb hG
  have hmz : (msgCells zeroM).toArray = #[.int .i64 0, .int .i64 0, .int .i64 0, .int .i64 0, .int .i64 0, .int .i64 0, .int .i64 0, .int .i64 0, .int .i64 0, .int .i64 0, .int .i64 0, .int .u8 0, .int .i64 0, .int .i64 0] := rfl
  rw [hmz] at hf0 hz0 Hb hG0
  clear hmz
  go_enter Tryz.func40, Tryz.ntmps40
  go_wp2_with fail
  generalize w.alloc _ = W0 at *
  refine Hb.out.mono ?_
  rintro e w1 ⟨v, rfl, ⟨g, hg, rfl, hbk⟩, hf1⟩
  have hz1 : ZM w1 w.heap.size := Blk.fr hz0 hf1 fun h => h
  have hG1 := hG0.fr hf1 (fun _ h => h.elim)
  have hW1 := hf0.trans' hf1
  have hcell0 : w1.cell? ⟨g, 0, none⟩ = some (.int .u8 (k.toNat : Int)) := by rw [hbk.cell]; rfl
  have hku := u8_lt k
  obtain ⟨N, hN⟩ : ∃ N, N = (k :: l).length := ⟨_, rfl⟩
  have HN := Lib.hid hN
  have hN0 : 0 < N := by rw [hN]; simp
  have hN1 : N ≤ 61 := by rw [hN]; simp; omega
  have hN2 : N = l.length + 1 := by rw [hN]; simp
  have HN2 := Lib.hid hN2
  rw [← hN]
  have hrb : RB w1 (some ⟨g, 0, none⟩) (k :: l).length (k :: l) := hbk.reads0 (by simp)
  have HB := Lib.hid hbk
  have HZ := Lib.hid hz1
  have HG := Lib.hid hG1
  have HW := Lib.hid hW1
  have HR := Lib.hid hrb
  clear hN hN2 hf0 hf1 hz0 hz1 hG0 hG1 hW1 hbk Hb hg hrb
  have hk1 : (1 : Int) ≤ (k.toNat : Int) := by omega
  have hk6 : (k.toNat : Int) ≤ 6 := by omega
  have hk7 : (k.toNat : Int) < 7 := by omega
  obtain ⟨A3, c3, hsc, hrn, _⟩ := HG.out.shapes k.toNat (by omega)
  have Hl := Lib.hid (long_any A3 (shape k.toNat).length c3 (shape k.toNat) w1 HG.out.size hrn (fun f hf => (shape_mem _ f hf).2) (by have := shape_len k.toNat; omega))
  have hlo : lenF (shape k.toNat) < 100 := lenF_small _
  have hne1 : ((N : Int) != 1 + (lenF (shape k.toNat) : Int)) = true := by rw [bne_iff_ne]; have := HN2.out; omega
  have hd1 : decide ((k.toNat : Int) < 1) = false := by simp; omega
  have hd6 : decide (6 < (k.toNat : Int)) = false := by simp; omega
  generalize lenF (shape k.toNat) = q at *
  clear hne hrn
  go_wp2_with (go_at_call 71; refine Hl.out.mono ?_; rintro e w7 ⟨rfl, rfl⟩)
  refine (wrap_any _ _ _).mono ?_
  rintro e w8 ⟨rfl, hF, rfl⟩
  have hres : ZM (w1.alloc (.cells (faultCells (N : Int) 62) 148)) w.heap.size := HZ.out.alloc _
  have hcz := hres.cell
  have hfz := fun i => Blk.frozen hres i
  have hs1 := hres.same.1
  have hs2 := hres.same.2
  have HF := Lib.hid hF
  have HW8 := Lib.hid (HW.out.alloc (.cells (faultCells (N : Int) 62) 148))
  clear hF hres
  generalize w1.alloc _ = w8 at *
  go_wp2
  exact bodyPost_ret (v := .tuple #[msgV zeroM, errV w1.heap.size]) (by simp [results, Tryz.results40, go_sem, hcz]; first | exact ⟨rfl, rfl⟩ | rfl) rfl ⟨_, rfl, by rw [← HN2.out]; exact HF.out, HW8.out⟩

theorem getN_nonneg (xs : List UInt8) (p n : Nat) : 0 ≤ getN xs p n := by
  unfold getN
  split <;> omega
theorem pickF_nonneg {xs : List UInt8} {own : Bool} {v' : V} : ∀ (sh : List Nat) (p : Nat) (v : V), (∀ i, 0 ≤ v i) → pickF xs own sh p v = .ok v' → ∀ i, 0 ≤ v' i
  | [], p, v, h, he => by
    cases he
    exact h
  | f :: sh, p, v, h, he => by
    unfold pickF at he
    generalize mayB f _ _ = b at he
    cases b with
    | true =>
      rw [if_pos rfl] at he
      refine pickF_nonneg sh _ _ (fun i => ?_) he
      unfold setV
      split
      · exact getN_nonneg _ _ _
      · exact h i
    | false =>
      rw [if_neg (by simp)] at he
      cases he
/-- The fields ahead of the last ones are read: what pick has said. -/
def InPost (w : World) (xs : List UInt8) (k : UInt8) (e : Ending) (w' : World) : Prop :=
  match pickF xs (decide (k.toNat = 2)) (shape k.toNat) 1 (setV zeroV 0 (k.toNat : Int)) with
  | .ok v => e = .returned (.tuple #[msgV (msgOf (k.toNat : Int) v), .nilIface]) ∧ Fr None' w w'
  | .error p => ∃ g, e = .returned (.tuple #[msgV zeroM, errV g]) ∧ Fault w' g (p : Int) 63 ∧ Fr None' w w'

set_option maxHeartbeats 4000000 in
theorem dec_in_pick (B : Nat) (A : Option Addr) (n c : Nat) (k : UInt8) (l : List UInt8) (w : World) (hG : Glb B w) (hL : l.length ≤ 60) (h1 : 1 ≤ k.toNat) (h6 : k.toNat ≤ 6) (hne : l.length = lenF (shape k.toNat))
    (hb : ∀ w', Fr None' w w' → Calls Tryz.prog 70 #[.slice A n c] w' fun e w2 => ∃ v, e = .returned (.tuple #[v, .nilIface]) ∧ NewB w' w2 v (k :: l) ∧ Fr None' w' w2) :
    Calls Tryz.prog 40 #[.slice A n c] w (InPost w (k :: l) k) := by
  have hf0 : Fr None' w (w.alloc (.cells (msgCells zeroM).toArray 28)) := (Fr.refl _ _).alloc _
  have hz0 : ZM (w.alloc (.cells (msgCells zeroM).toArray 28)) w.heap.size := Blk.new _ _ _
  have Hb := Lib.hid (hb _ hf0)
  have hG0 := hG.fr hf0 (fun _ h => h.elim)
  clear hb hG
  have hmz : (msgCells zeroM).toArray = #[.int .i64 0, .int .i64 0, .int .i64 0, .int .i64 0, .int .i64 0, .int .i64 0, .int .i64 0, .int .i64 0, .int .i64 0, .int .i64 0, .int .i64 0, .int .u8 0, .int .i64 0, .int .i64 0] := rfl
  rw [hmz] at hf0 hz0 Hb hG0
  clear hmz
  go_enter Tryz.func40, Tryz.ntmps40
  go_wp2_with fail
  generalize w.alloc _ = W0 at *
  refine Hb.out.mono ?_
  rintro e w1 ⟨v, rfl, ⟨g, hg, rfl, hbk⟩, hf1⟩
  have hz1 : ZM w1 w.heap.size := Blk.fr hz0 hf1 fun h => h
  have hG1 := hG0.fr hf1 (fun _ h => h.elim)
  have hW1 := hf0.trans' hf1
  have hcell0 : w1.cell? ⟨g, 0, none⟩ = some (.int .u8 (k.toNat : Int)) := by rw [hbk.cell]; rfl
  have hku := u8_lt k
  obtain ⟨N, hN⟩ : ∃ N, N = (k :: l).length := ⟨_, rfl⟩
  have HN := Lib.hid hN
  have hN0 : 0 < N := by rw [hN]; simp
  have hN1 : N ≤ 61 := by rw [hN]; simp; omega
  have hN2 : N = l.length + 1 := by rw [hN]; simp
  have HN2 := Lib.hid hN2
  rw [← hN]
  have hrb : RB w1 (some ⟨g, 0, none⟩) (k :: l).length (k :: l) := hbk.reads0 (by simp)
  have HB := Lib.hid hbk
  have HZ := Lib.hid hz1
  have HG := Lib.hid hG1
  have HW := Lib.hid hW1
  have HR := Lib.hid hrb
  clear hN hN2 hf0 hf1 hz0 hz1 hG0 hG1 hW1 hbk Hb hg hrb
  have hk1 : (1 : Int) ≤ (k.toNat : Int) := by omega
  have hk6 : (k.toNat : Int) ≤ 6 := by omega
  have hk7 : (k.toNat : Int) < 7 := by omega
  obtain ⟨A3, c3, hsc, hrn, _⟩ := HG.out.shapes k.toNat (by omega)
  have Hl := Lib.hid (long_any A3 (shape k.toNat).length c3 (shape k.toNat) w1 HG.out.size hrn (fun f hf => (shape_mem _ f hf).2) (by have := shape_len k.toNat; omega))
  have hlo : lenF (shape k.toNat) < 100 := lenF_small _
  have hne1 : ((N : Int) != 1 + (lenF (shape k.toNat) : Int)) = false := by rw [bne_eq_false_iff_eq]; have := HN2.out; omega
  have hd1 : decide ((k.toNat : Int) < 1) = false := by simp; omega
  have hd6 : decide (6 < (k.toNat : Int)) = false := by simp; omega
  have Hp := Lib.hid (pick_any (some ⟨g, 0, none⟩) A3 N N (shape k.toNat).length c3 (k :: l) (shape k.toNat) (decide (k.toNat = 2)) w1 HG.out.size (by have := HR.out; rw [← HN.out] at this; exact this) hrn (fun f hf => (shape_mem _ f hf).2) (by have := HN2.out; omega) (by omega) (by have := shape_len k.toNat; omega))
  have HQ : Hid ((((k :: l)[0]?).getD 0).toNat = k.toNat) := by
    show (((k :: l)[0]?).getD 0).toNat = k.toNat
    rfl
  rw [HQ.out] at Hp
  have hkb : ((k.toNat : Int) == 2) = decide (k.toNat = 2) := by
    by_cases h : k.toNat = 2
    · simp [h]
    · simp [h]; omega
  generalize lenF (shape k.toNat) = q at *
  clear hne hrn
  unfold PickPost at Hp
  obtain ⟨res, hres⟩ : ∃ res, res = pickF (k :: l) (decide (k.toNat = 2)) (shape k.toNat) 1 (setV zeroV 0 (k.toNat : Int)) := ⟨_, rfl⟩
  rw [← hres] at Hp
  have HRES := Lib.hid hres
  clear hres
  go_wp2_with (go_at_call 71; refine Hl.out.mono ?_; rintro e w7 ⟨rfl, rfl⟩)
  cases res with
  | error p =>
    refine Hp.out.mono ?_
    rintro e w2 ⟨g2, rfl, hF, hf2⟩
    have hst : (storeCells ⟨w2.heap.size, 0, none⟩ (vcells zeroV).toList).run Tryz.prog (w2.alloc (.cells #[.int .i64 0, .int .i64 0, .int .i64 0, .int .i64 0, .int .i64 0, .int .i64 0, .int .i64 0, .int .i64 0, .int .i64 0, .int .i64 0, .int .i64 0, .int .i64 0, .int .i64 0, .int .i64 0] 139)) = .ok () ((w2.alloc (.cells #[.int .i64 0, .int .i64 0, .int .i64 0, .int .i64 0, .int .i64 0, .int .i64 0, .int .i64 0, .int .i64 0, .int .i64 0, .int .i64 0, .int .i64 0, .int .i64 0, .int .i64 0, .int .i64 0] 139)).setRow w2.heap.size (vcells zeroV)) := run_store_vals (Blk.new w2 139 (vcells zeroV)) rfl zeroV
    have hvs : (vcells zeroV).size = 14 := rfl
    have hz2 : ZM w2 w.heap.size := Blk.fr HZ.out hf2 fun h => h
    have hlt2 : w.heap.size < w2.heap.size := Blk.lt hz2
    have hz3 : ZM ((w2.alloc (.cells #[.int .i64 0, .int .i64 0, .int .i64 0, .int .i64 0, .int .i64 0, .int .i64 0, .int .i64 0, .int .i64 0, .int .i64 0, .int .i64 0, .int .i64 0, .int .i64 0, .int .i64 0, .int .i64 0] 139)).setRow w2.heap.size (vcells zeroV)) w.heap.size := Blk.setRow_far (Blk.alloc hz2 _) (by omega) _
    have hv3 : Vals ((w2.alloc (.cells #[.int .i64 0, .int .i64 0, .int .i64 0, .int .i64 0, .int .i64 0, .int .i64 0, .int .i64 0, .int .i64 0, .int .i64 0, .int .i64 0, .int .i64 0, .int .i64 0, .int .i64 0, .int .i64 0] 139)).setRow w2.heap.size (vcells zeroV)) w2.heap.size zeroV := Blk.setRow (Blk.new w2 139 (vcells zeroV)) _
    have hw3 : Fr None' w ((w2.alloc (.cells #[.int .i64 0, .int .i64 0, .int .i64 0, .int .i64 0, .int .i64 0, .int .i64 0, .int .i64 0, .int .i64 0, .int .i64 0, .int .i64 0, .int .i64 0, .int .i64 0, .int .i64 0, .int .i64 0] 139)).setRow w2.heap.size (vcells zeroV)) := Fr.setRow ((HW.out.trans' hf2).alloc _) (.inl (by omega)) _
    have hF3 : Fault ((w2.alloc (.cells #[.int .i64 0, .int .i64 0, .int .i64 0, .int .i64 0, .int .i64 0, .int .i64 0, .int .i64 0, .int .i64 0, .int .i64 0, .int .i64 0, .int .i64 0, .int .i64 0, .int .i64 0, .int .i64 0] 139)).setRow w2.heap.size (vcells zeroV)) g2 (p : Int) 63 := Blk.setRow_far (hF.alloc _) (by have := hF.lt; omega) _
    have HZ3 := Lib.hid hz3
    have HW3 := Lib.hid hw3
    have HF3 := Lib.hid hF3
    clear hz2 hz3 hv3 hw3 hF hF3 hf2
    unfold errV at *
    go_upto_if 51 with (fail)
    clear hst
    generalize (w2.alloc _).setRow _ _ = w3 at *
    have hcz := HZ3.out.cell
    have hfz := fun i => Blk.frozen HZ3.out i
    have hs1 := HZ3.out.same.1
    have hs2 := HZ3.out.same.2
    go_wp2
    exact bodyPost_ret (v := .tuple #[msgV zeroM, errV g2]) (by simp [results, Tryz.results40, go_sem, hcz]; first | exact ⟨rfl, rfl⟩ | rfl) rfl (by unfold InPost; rw [← HRES.out]; exact ⟨_, rfl, HF3.out, HW3.out⟩)
  | ok v =>
    refine Hp.out.mono ?_
    rintro e w2 ⟨rfl, hf2⟩
    have hst : (storeCells ⟨w2.heap.size, 0, none⟩ (vcells v).toList).run Tryz.prog (w2.alloc (.cells #[.int .i64 0, .int .i64 0, .int .i64 0, .int .i64 0, .int .i64 0, .int .i64 0, .int .i64 0, .int .i64 0, .int .i64 0, .int .i64 0, .int .i64 0, .int .i64 0, .int .i64 0, .int .i64 0] 139)) = .ok () ((w2.alloc (.cells #[.int .i64 0, .int .i64 0, .int .i64 0, .int .i64 0, .int .i64 0, .int .i64 0, .int .i64 0, .int .i64 0, .int .i64 0, .int .i64 0, .int .i64 0, .int .i64 0, .int .i64 0, .int .i64 0] 139)).setRow w2.heap.size (vcells v)) := run_store_vals (Blk.new w2 139 (vcells zeroV)) rfl v
    have hvs : (vcells v).size = 14 := rfl
    have hz2 : ZM w2 w.heap.size := Blk.fr HZ.out hf2 fun h => h
    have hlt2 : w.heap.size < w2.heap.size := Blk.lt hz2
    have hz3 : ZM ((w2.alloc (.cells #[.int .i64 0, .int .i64 0, .int .i64 0, .int .i64 0, .int .i64 0, .int .i64 0, .int .i64 0, .int .i64 0, .int .i64 0, .int .i64 0, .int .i64 0, .int .i64 0, .int .i64 0, .int .i64 0] 139)).setRow w2.heap.size (vcells v)) w.heap.size := Blk.setRow_far (Blk.alloc hz2 _) (by omega) _
    have hv3 : Vals ((w2.alloc (.cells #[.int .i64 0, .int .i64 0, .int .i64 0, .int .i64 0, .int .i64 0, .int .i64 0, .int .i64 0, .int .i64 0, .int .i64 0, .int .i64 0, .int .i64 0, .int .i64 0, .int .i64 0, .int .i64 0] 139)).setRow w2.heap.size (vcells v)) w2.heap.size v := Blk.setRow (Blk.new w2 139 (vcells zeroV)) _
    have hw3 : Fr None' w ((w2.alloc (.cells #[.int .i64 0, .int .i64 0, .int .i64 0, .int .i64 0, .int .i64 0, .int .i64 0, .int .i64 0, .int .i64 0, .int .i64 0, .int .i64 0, .int .i64 0, .int .i64 0, .int .i64 0, .int .i64 0] 139)).setRow w2.heap.size (vcells v)) := Fr.setRow ((HW.out.trans' hf2).alloc _) (.inl (by omega)) _
    have HZ3 := Lib.hid hz3
    have HW3 := Lib.hid hw3
    have HV3 := Lib.hid hv3
    clear hz2 hz3 hv3 hw3 hf2
    have HNE := Lib.hid (Nat.ne_of_gt hlt2)
    go_upto_if 51 with (fail)
    clear hst
    generalize (w2.alloc _).setRow _ _ = w3 at *
    generalize w2.heap.size = g7 at *
    have h11 : 0 ≤ v 11 := pickF_nonneg _ _ _ (fun i => by unfold setV zeroV; split <;> omega) HRES.out.symm 11
    have hoV : opV (opOf v) = .agg #[.int .i64 (v 9), .int .i64 (v 10), .int .u8 (v 11 % 256), .int .i64 (v 12), .int .i64 (v 13)] := by
      unfold opV opCells opOf
      rw [ch_of _ h11]
    have hmV : msgV (msgOf (k.toNat : Int) v) = .agg #[.int .i64 (k.toNat : Int), .int .i64 (v 1), .int .i64 (v 2), .int .i64 (v 3), .int .i64 (v 4), .int .i64 (v 5), .int .i64 (v 6), .int .i64 (v 7), .int .i64 (v 8), .int .i64 (v 9), .int .i64 (v 10), .int .u8 (v 11 % 256), .int .i64 (v 12), .int .i64 (v 13)] := by
      unfold msgV msgCells opCells msgOf opOf
      rw [ch_of _ h11]
      rfl
    have Ho := Lib.hid fun w' (h : Fr (Only w.heap.size) w3 w') => vop_any g7 v w' (HV3.out.fr h fun h => HNE.out h) h11
    rw [hoV] at Ho
    have HMV := Lib.hid hmV
    clear h11 hoV hmV
    have hgz : g7 ≠ w.heap.size := HNE.out
    have hcv : ∀ (x : LaterM (Only w.heap.size) w3) i, x.w.cell? ⟨g7, i, none⟩ = (#[.int .i64 (v 0), .int .i64 (v 1), .int .i64 (v 2), .int .i64 (v 3), .int .i64 (v 4), .int .i64 (v 5), .int .i64 (v 6), .int .i64 (v 7), .int .i64 (v 8), .int .i64 (v 9), .int .i64 (v 10), .int .i64 (v 11), .int .i64 (v 12), .int .i64 (v 13)] : Array Value)[i]? := fun x => Blk.cell (HV3.out.fr x.fr fun h => HNE.out h)
    go_wp2_with fail
    refine wp_region_M (Only w.heap.size) (by kernel_rfl) ?_
    refine wpM_heads 17 0 4 (by kernel_rfl) (by kernel_rfl) ?_ (by kernel_rfl)
    simp only [List.take_succ_cons, List.take_zero, List.drop_zero]
    repeat (go_big_quiet_step (fail))
    refine wpQuiet_nil ?_
    refine wpM_call (by kernel_rfl) 17 71 rfl rfl (by kernel_rfl) rfl _ _ _ (by intro w; simp [go_sem]) Ho.out ?_
    simp only [List.set_cons_succ, List.set_cons_zero]
    refine wpM_heads 1 18 2 (by kernel_rfl) (by kernel_rfl) ?_ (by kernel_rfl)
    simp only [List.take_succ_cons, List.take_zero, List.drop_succ_cons, List.drop_zero]
    repeat (go_big_quiet_step (fail))
    refine wpQuiet_nil ?_
    clear hcv Ho
    refine wpM_step 19 rfl (by kernel_rfl) (fun w4 hw4 hw4' => ?_)
    have hz4 : ZM w4 w.heap.size := Blk.fr (Blk.drew HZ3.out) hw4' fun h => h
    have hcz := hz4.cell
    have hfz := fun i => Blk.frozen hz4 i
    have HW4 := Lib.hid (HW3.out.trans hw4 fun i hi hs => by unfold Only at hs; omega)
    have Hw4 := Lib.hid hw4
    have HZ4 := Lib.hid hz4
    clear hw4 hw4' hz4
    go_wp2_with fail
    refine ⟨MC.mk ?_, ?_⟩
    · iterate 14 refine Fr.setCell (S := Only w.heap.size) ?_ (.inr (show w.heap.size = w.heap.size from rfl)) _
      exact Hw4.out
    refine wpM_step 20 rfl (by kernel_rfl) (fun w5 hw5 hw5' => ?_)
    have hlt4 : w.heap.size < w4.heap.size := lt_of_cell (hcz 0)
    have B0 : Blk _ w.heap.size 28 #[.int .i64 (k.toNat : Int), .int .i64 0, .int .i64 0, .int .i64 0, .int .i64 0, .int .i64 0, .int .i64 0, .int .i64 0, .int .i64 0, .int .i64 0, .int .i64 0, .int .u8 0, .int .i64 0, .int .i64 0] := Blk.set_ HZ4.out 0 (.int .i64 (k.toNat : Int))
    have B1 : Blk _ w.heap.size 28 #[.int .i64 (k.toNat : Int), .int .i64 (v 1), .int .i64 0, .int .i64 0, .int .i64 0, .int .i64 0, .int .i64 0, .int .i64 0, .int .i64 0, .int .i64 0, .int .i64 0, .int .u8 0, .int .i64 0, .int .i64 0] := Blk.set_ B0 1 (.int .i64 (v 1))
    have B2 : Blk _ w.heap.size 28 #[.int .i64 (k.toNat : Int), .int .i64 (v 1), .int .i64 (v 2), .int .i64 0, .int .i64 0, .int .i64 0, .int .i64 0, .int .i64 0, .int .i64 0, .int .i64 0, .int .i64 0, .int .u8 0, .int .i64 0, .int .i64 0] := Blk.set_ B1 2 (.int .i64 (v 2))
    have B3 : Blk _ w.heap.size 28 #[.int .i64 (k.toNat : Int), .int .i64 (v 1), .int .i64 (v 2), .int .i64 (v 3), .int .i64 0, .int .i64 0, .int .i64 0, .int .i64 0, .int .i64 0, .int .i64 0, .int .i64 0, .int .u8 0, .int .i64 0, .int .i64 0] := Blk.set_ B2 3 (.int .i64 (v 3))
    have B4 : Blk _ w.heap.size 28 #[.int .i64 (k.toNat : Int), .int .i64 (v 1), .int .i64 (v 2), .int .i64 (v 3), .int .i64 (v 4), .int .i64 0, .int .i64 0, .int .i64 0, .int .i64 0, .int .i64 0, .int .i64 0, .int .u8 0, .int .i64 0, .int .i64 0] := Blk.set_ B3 4 (.int .i64 (v 4))
    have B5 : Blk _ w.heap.size 28 #[.int .i64 (k.toNat : Int), .int .i64 (v 1), .int .i64 (v 2), .int .i64 (v 3), .int .i64 (v 4), .int .i64 (v 5), .int .i64 0, .int .i64 0, .int .i64 0, .int .i64 0, .int .i64 0, .int .u8 0, .int .i64 0, .int .i64 0] := Blk.set_ B4 5 (.int .i64 (v 5))
    have B6 : Blk _ w.heap.size 28 #[.int .i64 (k.toNat : Int), .int .i64 (v 1), .int .i64 (v 2), .int .i64 (v 3), .int .i64 (v 4), .int .i64 (v 5), .int .i64 (v 6), .int .i64 0, .int .i64 0, .int .i64 0, .int .i64 0, .int .u8 0, .int .i64 0, .int .i64 0] := Blk.set_ B5 6 (.int .i64 (v 6))
    have B7 : Blk _ w.heap.size 28 #[.int .i64 (k.toNat : Int), .int .i64 (v 1), .int .i64 (v 2), .int .i64 (v 3), .int .i64 (v 4), .int .i64 (v 5), .int .i64 (v 6), .int .i64 (v 7), .int .i64 0, .int .i64 0, .int .i64 0, .int .u8 0, .int .i64 0, .int .i64 0] := Blk.set_ B6 7 (.int .i64 (v 7))
    have B8 : Blk _ w.heap.size 28 #[.int .i64 (k.toNat : Int), .int .i64 (v 1), .int .i64 (v 2), .int .i64 (v 3), .int .i64 (v 4), .int .i64 (v 5), .int .i64 (v 6), .int .i64 (v 7), .int .i64 (v 8), .int .i64 0, .int .i64 0, .int .u8 0, .int .i64 0, .int .i64 0] := Blk.set_ B7 8 (.int .i64 (v 8))
    have B9 : Blk _ w.heap.size 28 #[.int .i64 (k.toNat : Int), .int .i64 (v 1), .int .i64 (v 2), .int .i64 (v 3), .int .i64 (v 4), .int .i64 (v 5), .int .i64 (v 6), .int .i64 (v 7), .int .i64 (v 8), .int .i64 (v 9), .int .i64 0, .int .u8 0, .int .i64 0, .int .i64 0] := Blk.set_ B8 9 (.int .i64 (v 9))
    have B10 : Blk _ w.heap.size 28 #[.int .i64 (k.toNat : Int), .int .i64 (v 1), .int .i64 (v 2), .int .i64 (v 3), .int .i64 (v 4), .int .i64 (v 5), .int .i64 (v 6), .int .i64 (v 7), .int .i64 (v 8), .int .i64 (v 9), .int .i64 (v 10), .int .u8 0, .int .i64 0, .int .i64 0] := Blk.set_ B9 10 (.int .i64 (v 10))
    have B11 : Blk _ w.heap.size 28 #[.int .i64 (k.toNat : Int), .int .i64 (v 1), .int .i64 (v 2), .int .i64 (v 3), .int .i64 (v 4), .int .i64 (v 5), .int .i64 (v 6), .int .i64 (v 7), .int .i64 (v 8), .int .i64 (v 9), .int .i64 (v 10), .int .u8 (v 11 % 256), .int .i64 0, .int .i64 0] := Blk.set_ B10 11 (.int .u8 (v 11 % 256))
    have B12 : Blk _ w.heap.size 28 #[.int .i64 (k.toNat : Int), .int .i64 (v 1), .int .i64 (v 2), .int .i64 (v 3), .int .i64 (v 4), .int .i64 (v 5), .int .i64 (v 6), .int .i64 (v 7), .int .i64 (v 8), .int .i64 (v 9), .int .i64 (v 10), .int .u8 (v 11 % 256), .int .i64 (v 12), .int .i64 0] := Blk.set_ B11 12 (.int .i64 (v 12))
    have B13 : Blk _ w.heap.size 28 #[.int .i64 (k.toNat : Int), .int .i64 (v 1), .int .i64 (v 2), .int .i64 (v 3), .int .i64 (v 4), .int .i64 (v 5), .int .i64 (v 6), .int .i64 (v 7), .int .i64 (v 8), .int .i64 (v 9), .int .i64 (v 10), .int .u8 (v 11 % 256), .int .i64 (v 12), .int .i64 (v 13)] := Blk.set_ B12 13 (.int .i64 (v 13))
    have HB5 := Lib.hid (Blk.fr B13 hw5' fun h => h)
    clear B0 B1 B2 B3 B4 B5 B6 B7 B8 B9 B10 B11 B12 B13
    have Hw5 := Lib.hid hw5
    clear hw5 hw5'
    go_wp2_with fail
    refine ⟨MC.mk Hw5.out, wpM_done (by kernel_rfl) (fun w6 hw6 hw6' => ?_)⟩
    have HW6 := Lib.hid (HW3.out.trans hw6 fun i hi hs => by unfold Only at hs; omega)
    have hc6 : ∀ i, w6.cell? ⟨w.heap.size, i, none⟩ = (#[.int .i64 (k.toNat : Int), .int .i64 (v 1), .int .i64 (v 2), .int .i64 (v 3), .int .i64 (v 4), .int .i64 (v 5), .int .i64 (v 6), .int .i64 (v 7), .int .i64 (v 8), .int .i64 (v 9), .int .i64 (v 10), .int .u8 (v 11 % 256), .int .i64 (v 12), .int .i64 (v 13)] : Array Value)[i]? := by
      intro i
      exact Blk.cell (Blk.fr HB5.out hw6' fun h => h) i
    clear hw6 hw6' hcz hfz
    go_wp2_with fail
    exact bodyPost_ret (v := .tuple #[msgV (msgOf (k.toNat : Int) v), .nilIface]) (by rw [HMV.out]; simp [results, Tryz.results40, go_sem, hc6]) rfl (by unfold InPost; rw [← HRES.out]; exact ⟨rfl, HW6.out⟩)
end Go.Proofs.YtodkhoclbhdihaaGreatDoor

/-
  Contract of wire's Decode, all cases in one.
-/
namespace Go.Proofs.YtodkhoclbhdihaaGreatDoor
open Go.RowKit

theorem decode_any (B : Nat) (A : Option Addr) (n c : Nat) (xs : List UInt8) (w : World) (hG : Glb B w) (ha : RB w A n xs) (hc : n ≤ c) :
    Calls Tryz.prog 40 #[.slice A n c] w (DecPost w xs) := by
  have hl := ha.len1
  rw [List.length_map] at hl
  have hG' : ∀ w', Fr None' w w' → Glb B w' := fun w' h => hG.fr h fun _ h => h.elim
  unfold DecPost decF
  by_cases h64 : 64 < n
  · rw [if_pos (by omega)]
    exact dec_err A n c 60 64 w fun w' _ => body_long A n c w' h64
  rw [if_neg (by omega)]
  by_cases h4 : n < 4
  · rw [if_pos (by omega), hl]
    exact dec_err A n c 62 n w fun w' h => body_short A n c w' (hG' w' h).err h4
  rw [if_neg (by omega), hl]
  by_cases hx : xs.drop (n - 4) = sum4 (crc (xs.take (n - 4)))
  · rw [if_pos hx]
    by_cases hn4 : n = 4
    · have hnil : xs.take (n - 4) = [] := by subst hn4; rfl
      rw [hnil]
      exact dec_err A n c 62 0 w fun w' h => (body_ok A n c xs w' (hG' w' h).tab (ha.frn h) (by omega) hc (by omega) hx).mono fun e w2 h => h.1 hn4
    · obtain ⟨k, l, hkl⟩ : ∃ k l, xs.take (n - 4) = k :: l := by
        cases h : xs.take (n - 4) with
        | nil => have := congrArg List.length h; rw [List.length_take, List.length_nil] at this; omega
        | cons k l => exact ⟨k, l, rfl⟩
      have hll : l.length ≤ 60 := by have := congrArg List.length hkl; rw [List.length_take, List.length_cons] at this; omega
      have hb : ∀ w', Fr None' w w' → Calls Tryz.prog 70 #[.slice A n c] w' fun e w2 => ∃ v, e = .returned (.tuple #[v, .nilIface]) ∧ NewB w' w2 v (k :: l) ∧ Fr None' w' w2 :=
        fun w' h => (body_ok A n c xs w' (hG' w' h).tab (ha.frn h) (by omega) hc (by omega) hx).mono fun e w2 h => by rw [← hkl]; exact h.2 (by omega)
      rw [hkl]
      unfold bodyF
      by_cases hk : k.toNat < 1 ∨ 6 < k.toNat
      · simp only [if_pos hk]
        exact dec_in_kind B A n c k l w hG hll hk hb
      · simp only [if_neg hk]
        by_cases hne : l.length = lenF (shape k.toNat)
        · rw [if_neg (by simp; omega)]
          refine (dec_in_pick B A n c k l w hG hll (by omega) (by omega) hne hb).mono fun e w' h => ?_
          unfold InPost at h
          have e0 : setV (fun _ => 0) 0 (k.toNat : Int) = setV zeroV 0 (k.toNat : Int) := rfl
          rw [e0]
          generalize pickF (k :: l) (decide (k.toNat = 2)) (shape k.toNat) 1 (setV zeroV 0 (k.toNat : Int)) = res at *
          cases res <;> exact h
        · rw [if_pos (by simp; omega)]
          exact dec_in_len B A n c k l w hG hll (by omega) (by omega) hne hb
  · rw [if_neg hx]
    exact dec_err A n c 64 _ w fun w' h => body_bad A n c xs w' (hG' w' h).err (hG' w' h).tab (ha.frn h) (by omega) hc (by omega) hx
end Go.Proofs.YtodkhoclbhdihaaGreatDoor

/-
  Contract of tap's See: what is known ahead of it; the datagrams whose addresses cannot be.
-/
namespace Go.Proofs.YtodkhoclbhdihaaGreatDoor
open Go.RowKit

theorem wrap_fr (a c : Int) (w : World) : Calls Tryz.prog 62 #[.int .i64 a, .int .i64 c] w fun e w' => ∃ g, e = .returned (errV g) ∧ Fault w' g a c ∧ Fr None' w w' :=
  (wrap_any a c w).mono fun e w' ⟨h1, h2, h3⟩ => ⟨_, h1, h2, by rw [h3]; exact (Fr.refl _ _).alloc _⟩
theorem dec_code {xs : List UInt8} {x : Int × Int} (h : decF xs = .error x) : x.1 ≠ 0 := by
  unfold decF at h
  split at h
  · cases h; simp
  split at h
  · cases h; simp
  split at h
  · unfold bodyF at h
    split at h
    · cases h; simp
    · split at h
      · cases h; simp
      · split at h
        · cases h; simp
        · split at h
          · cases h; simp
          · cases h
  · cases h; simp
/-- The error value that a number and a place stand for. -/
def ErrIs (w : World) (X : Value) (x : Int × Int) : Prop := (x = (0, 0) ∧ X = .nilIface) ∨ (x.1 ≠ 0 ∧ ∃ g, X = errV g ∧ Fault w g x.2 x.1)
def SeePost (w : World) (a r v e : Nat) (x : (Int × Int) × GTap) (ev : Ending) (w' : World) : Prop :=
  ∃ X, ev = .returned X ∧ ErrIs w' X x.1 ∧ TapAt w' a r v e x.2 ∧ Fr (Its a r v e) w w'

theorem TapAt.upRec {w : World} {a r v e : Nat} {T : GTap} (h : TapAt w a r v e T) (l : List (Int × GOp)) : TapAt (mapSet vi opV w r l) a r v e { T with records := l } :=
  ⟨h.blk.mapSet r h.ne.1 l, h.recs.set l, h.revs.setFar (Ne.symm h.ne.2.2.2.1) l, h.eds.setFar (Ne.symm h.ne.2.2.2.2.1) l, h.ne⟩
theorem TapAt.upRev {w : World} {a r v e : Nat} {T : GTap} (h : TapAt w a r v e T) (l : List ((Int × Int) × Int)) : TapAt (mapSet nameV vi w v l) a r v e { T with revs := l } :=
  ⟨h.blk.mapSet v h.ne.2.1 l, h.recs.setFar h.ne.2.2.2.1 l, h.revs.set l, h.eds.setFar (Ne.symm h.ne.2.2.2.2.2) l, h.ne⟩
theorem TapAt.upEd {w : World} {a r v e : Nat} {T : GTap} (h : TapAt w a r v e T) (l : List ((Int × Int) × GEdit)) : TapAt (mapSet nameV editV w e l) a r v e { T with edits := l } :=
  ⟨h.blk.mapSet e h.ne.2.2.1 l, h.recs.setFar h.ne.2.2.2.2.1 l, h.revs.setFar h.ne.2.2.2.2.2 l, h.eds.set l, h.ne⟩
theorem TapAt.upEpoch {w : World} {a r v e : Nat} {T : GTap} (h : TapAt w a r v e T) (x : Int) : TapAt (w.setCell ⟨a, 1, none⟩ (.int .i64 x)) a r v e { T with epoch := x } := by
  have hf : Fr (Only a) w (w.setCell ⟨a, 1, none⟩ (.int .i64 x)) := (Fr.refl _ _).setCell (.inr (show a = a from rfl)) _
  refine ⟨by have := h.blk.set_ 1 (.int .i64 x); simpa using this, h.recs.fr hf (fun e => h.ne.1 e.symm), h.revs.fr hf (fun e => h.ne.2.1 e.symm), h.eds.fr hf (fun e => h.ne.2.2.1 e.symm), h.ne⟩

/-- An address that may not be. -/
def badAdr (n fr to_ : Int) : Prop := (decide (fr = 0) == decide (to_ = 0)) = true ∨ (fr < 0 ∨ to_ < 0) ∨ (n < fr ∨ n < to_)
theorem see_bad {T : GTap} {fr to_ : Int} {xs : List UInt8} (h : badAdr T.clients fr to_) : seeF T fr to_ xs = ((71, 0), T) := by
  unfold seeF
  rw [if_pos (by unfold badAdr at h; simpa using h)]
def minI (a b : Int) : Int := if b < a then b else a
theorem run_min (ts : Array TypeId) (ty : TypeId) (a b : Int) (w : World) : (Builtin.min_ ts ty #[.int .i64 a, .int .i64 b]).run Tryz.prog w = .ok (.int .i64 (minI a b)) w := rfl
theorem run_max (ts : Array TypeId) (ty : TypeId) (a b : Int) (w : World) : (Builtin.max_ ts ty #[.int .i64 a, .int .i64 b]).run Tryz.prog w = .ok (.int .i64 (maxI a b)) w := rfl
def adrB (n fr to_ : Int) : Bool := ((fr == 0) == (to_ == 0)) || decide (minI fr to_ < 0) || decide (n < maxI fr to_)
theorem adrB_iff (n fr to_ : Int) : adrB n fr to_ = true ↔ badAdr n fr to_ := by
  unfold adrB badAdr minI maxI
  simp only [Bool.or_eq_true, decide_eq_true_eq]
  constructor
  · rintro ((h | h) | h)
    · exact .inl h
    · refine .inr (.inl ?_); split at h <;> omega
    · refine .inr (.inr ?_); split at h <;> omega
  · rintro (h | h | h)
    · exact .inl (.inl h)
    · refine .inl (.inr ?_); split <;> omega
    · refine .inr ?_; split <;> omega

set_option maxHeartbeats 8000000 in
theorem see_adr (a r v e : Nat) (T : GTap) (fr to_ : Int) (A : Option Addr) (n c : Nat) (xs : List UInt8) (sp : Bool) (w : World) (hT : TapAt w a r v e T) (hbad : badAdr T.clients fr to_) :
    Calls Tryz.prog 37 #[.pointer (some ⟨a, 0, none⟩), dgV fr to_ (.slice A n c) sp] w fun ev w' => SeePost w a r v e (seeF T fr to_ xs) ev w' := by
  rw [see_bad hbad]
  obtain ⟨X, hX⟩ : ∃ X : World, X = w.alloc (.cells #[.int .i64 fr, .int .i64 to_, .slice A n c, .bool sp] 60) := ⟨_, rfl⟩
  have HX := Lib.hid hX
  have hXf : Fr None' w X := by rw [hX]; exact (Fr.refl _ _).alloc _
  have hD : Blk X w.heap.size 60 #[.int .i64 fr, .int .i64 to_, .slice A n c, .bool sp] := by rw [hX]; exact Blk.new _ _ _
  clear hX
  have hT1 := hT.frn hXf
  have z1 := hT1.cells
  have z2 : ∀ i, X.cell? ⟨w.heap.size, i, none⟩ = (#[.int .i64 fr, .int .i64 to_, .slice A n c, .bool sp] : Array Value)[i]? := fun i => Blk.cell hD i
  have HT := Lib.hid hT1
  have HF := Lib.hid hXf
  have He := Lib.hid wrap_fr
  have hadr := (adrB_iff _ _ _).2 hbad
  have HA := Lib.hid hadr
  clear hT hT1 hXf hD hadr
  unfold adrB at HA
  have hmin := fun ts ty w => run_min ts ty fr to_ w
  have hmax := fun ts ty w => run_max ts ty fr to_ w
  generalize minI fr to_ = mn at *
  generalize maxI fr to_ = mx at *
  unfold dgV
  cases gA : ((fr == 0) == (to_ == 0))
  · cases gB : decide (mn < 0)
    · have gC : decide (T.clients < mx) = true := by
        have := HA.out
        rw [gA, gB] at this
        simpa using this
      go_enter Tryz.func37, Tryz.ntmps37
      go_wp2
      rw [← HX.out]
      go_quiet (fail)
      go_wp2_with (go_at_call 62; refine (He.out _ _ _).mono ?_; rintro e1 w1 ⟨g, rfl, hF, hf1⟩)
      go_ret
      exact ⟨_, rfl, .inr ⟨by simp, g, rfl, hF⟩, (HT.out.frn ((Fr.refl _ _).drewN _)).frn hf1, ((HF.out.drewN _).trans' hf1).none⟩
    · go_enter Tryz.func37, Tryz.ntmps37
      go_wp2
      rw [← HX.out]
      go_quiet (fail)
      go_wp2_with (go_at_call 62; refine (He.out _ _ _).mono ?_; rintro e1 w1 ⟨g, rfl, hF, hf1⟩)
      go_ret
      exact ⟨_, rfl, .inr ⟨by simp, g, rfl, hF⟩, (HT.out.frn ((Fr.refl _ _).drewN _)).frn hf1, ((HF.out.drewN _).trans' hf1).none⟩
  · go_enter Tryz.func37, Tryz.ntmps37
    go_wp2
    rw [← HX.out]
    go_quiet (fail)
    go_wp2_with (go_at_call 62; refine (He.out _ _ _).mono ?_; rintro e1 w1 ⟨g, rfl, hF, hf1⟩)
    go_ret
    exact ⟨_, rfl, .inr ⟨by simp, g, rfl, hF⟩, (HT.out.frn ((Fr.refl _ _).drewN _)).frn hf1, ((HF.out.drewN _).trans' hf1).none⟩
end Go.Proofs.YtodkhoclbhdihaaGreatDoor

/-
  Contract of tap's See.
-/
namespace Go.Proofs.YtodkhoclbhdihaaGreatDoor
open Go.RowKit

theorem see_err {T : GTap} {fr to_ : Int} {xs : List UInt8} {x : Int × Int} (h : ¬ badAdr T.clients fr to_) (hd : decF xs = .error x) : seeF T fr to_ xs = (x, T) := by
  unfold seeF
  rw [if_neg (by unfold badAdr at h; simpa using h), hd]
theorem see_msg {T : GTap} {fr to_ : Int} {xs : List UInt8} {m : GMsg} (h : ¬ badAdr T.clients fr to_) (hd : decF xs = .ok m) : seeF T fr to_ xs =
    if rightWay m fr to_ = false then ((281, 0), T)
      else if m.kind = 5 then
        if fitsRec T m.rev m.op then ((0, 0), { T with epoch := maxI T.epoch m.epoch, records := put T.records m.rev m.op, revs := put T.revs (nameOf m.op) m.rev }) else ((280, m.rev), T)
      else if m.kind = 2 then
        if fitsEd T ⟨m.tag, m.op⟩ then ((0, 0), { T with epoch := maxI T.epoch m.epoch, edits := put T.edits (nameOf m.op) ⟨m.tag, m.op⟩ }) else ((280, m.op.seq), T)
      else ((0, 0), { T with epoch := maxI T.epoch m.epoch }) := by
  conv => lhs; unfold seeF
  rw [if_neg (by unfold badAdr at h; simpa using h), hd]

set_option maxHeartbeats 16000000 in
theorem see_dec (B a r v e : Nat) (T : GTap) (fr to_ : Int) (A : Option Addr) (n c : Nat) (xs : List UInt8) (sp : Bool) (w : World) (hG : Glb B w) (hT : TapAt w a r v e T) (ha : RB w A n xs) (hc : n ≤ c) (hgood : ¬ badAdr T.clients fr to_) (x : Int × Int) (hd : decF xs = .error x) :
    Calls Tryz.prog 37 #[.pointer (some ⟨a, 0, none⟩), dgV fr to_ (.slice A n c) sp] w fun ev w' => SeePost w a r v e (x, T) ev w' := by
  obtain ⟨X, hX⟩ : ∃ X : World, X = w.alloc (.cells #[.int .i64 fr, .int .i64 to_, .slice A n c, .bool sp] 60) := ⟨_, rfl⟩
  have HX := Lib.hid hX
  have hXf : Fr None' w X := by rw [hX]; exact (Fr.refl _ _).alloc _
  have hD : Blk X w.heap.size 60 #[.int .i64 fr, .int .i64 to_, .slice A n c, .bool sp] := by rw [hX]; exact Blk.new _ _ _
  clear hX
  have hT1 := hT.frn hXf
  have z1 := hT1.cells
  have z2 : ∀ i, X.cell? ⟨w.heap.size, i, none⟩ = (#[.int .i64 fr, .int .i64 to_, .slice A n c, .bool sp] : Array Value)[i]? := fun i => Blk.cell hD i
  have HT := Lib.hid hT1
  have HF := Lib.hid hXf
  have HD := Lib.hid hD
  have He := Lib.hid wrap_fr
  have hadr : adrB T.clients fr to_ = false := by cases h : adrB T.clients fr to_; rfl; exact absurd ((adrB_iff _ _ _).1 h) hgood
  have HG := Lib.hid (hG.fr hXf fun _ h => h.elim)
  have HRB := Lib.hid (ha.frn hXf)
  clear hT hT1 hXf hD hG ha hgood
  unfold adrB at hadr
  have hmin := fun ts ty w => run_min ts ty fr to_ w
  have hmax := fun ts ty w => run_max ts ty fr to_ w
  generalize minI fr to_ = mn at *
  generalize maxI fr to_ = mx at *
  obtain ⟨gA, gB, gC⟩ : ((fr == 0) == (to_ == 0)) = false ∧ decide (mn < 0) = false ∧ decide (T.clients < mx) = false := by simpa only [Bool.or_eq_false_iff, and_assoc] using hadr
  clear hadr
  unfold dgV
  obtain ⟨cd, pl⟩ := x
  have Hd0 := Lib.hid hd
  clear hd
  go_enter Tryz.func37, Tryz.ntmps37
  go_wp2
  rw [← HX.out]
  go_quiet (fail)
  clear z1 z2 hmin hmax gA gB gC
  have HT1 := Lib.hid (HT.out.frn ((Fr.refl _ _).drewN nq))
  have HF1 := Lib.hid (HF.out.drewN nq)
  have hD1 := HD.out.drewN nq
  have HD1 := Lib.hid hD1
  have z2 : ∀ i, (X.drewN nq).cell? ⟨w.heap.size, i, none⟩ = (#[.int .i64 fr, .int .i64 to_, .slice A n c, .bool sp] : Array Value)[i]? := fun i => Blk.cell hD1 i
  have Hd := Lib.hid (decode_any B A n c xs (X.drewN nq) (HG.out.fr ((Fr.refl None' _).drewN nq) fun _ h => h.elim) (HRB.out.frn ((Fr.refl _ _).drewN nq)) hc)
  clear hD1
  generalize X.drewN nq = X1 at *
  unfold DecPost at Hd
  rw [Hd0.out] at Hd
  dsimp only at Hd
  unfold msgV msgCells opCells zeroM at Hd
  simp only [List.cons_append, List.nil_append] at Hd
  go_wp2_with fail
  refine Hd.out.mono ?_
  rintro e1 w2 ⟨g, rfl, hF, hf2⟩
  dsimp only
  have HFF := Lib.hid hF
  have Hf2 := Lib.hid hf2
  clear hF hf2 Hd
  unfold errV
  go_wp2
  go_ret
  exact ⟨_, rfl, .inr ⟨dec_code Hd0.out, g, rfl, HFF.out.alloc _⟩, (HT1.out.frn Hf2.out).frn ((Fr.refl _ _).alloc _), ((HF1.out.trans' Hf2.out).alloc _).none⟩

set_option maxHeartbeats 16000000 in
theorem see_way (B a r v e : Nat) (T : GTap) (fr to_ : Int) (A : Option Addr) (n c : Nat) (xs : List UInt8) (sp : Bool) (w : World) (hG : Glb B w) (hT : TapAt w a r v e T) (ha : RB w A n xs) (hc : n ≤ c) (hgood : ¬ badAdr T.clients fr to_) (m : GMsg) (hd : decF xs = .ok m) (hw : rightWay m fr to_ = false) :
    Calls Tryz.prog 37 #[.pointer (some ⟨a, 0, none⟩), dgV fr to_ (.slice A n c) sp] w fun ev w' => SeePost w a r v e ((281, 0), T) ev w' := by
  obtain ⟨X, hX⟩ : ∃ X : World, X = w.alloc (.cells #[.int .i64 fr, .int .i64 to_, .slice A n c, .bool sp] 60) := ⟨_, rfl⟩
  have HX := Lib.hid hX
  have hXf : Fr None' w X := by rw [hX]; exact (Fr.refl _ _).alloc _
  have hD : Blk X w.heap.size 60 #[.int .i64 fr, .int .i64 to_, .slice A n c, .bool sp] := by rw [hX]; exact Blk.new _ _ _
  clear hX
  have hT1 := hT.frn hXf
  have z1 := hT1.cells
  have z2 : ∀ i, X.cell? ⟨w.heap.size, i, none⟩ = (#[.int .i64 fr, .int .i64 to_, .slice A n c, .bool sp] : Array Value)[i]? := fun i => Blk.cell hD i
  have HT := Lib.hid hT1
  have HF := Lib.hid hXf
  have HD := Lib.hid hD
  have He := Lib.hid wrap_fr
  have hadr : adrB T.clients fr to_ = false := by cases h : adrB T.clients fr to_; rfl; exact absurd ((adrB_iff _ _ _).1 h) hgood
  have HG := Lib.hid (hG.fr hXf fun _ h => h.elim)
  have HRB := Lib.hid (ha.frn hXf)
  clear hT hT1 hXf hD hG ha hgood
  unfold adrB at hadr
  have hmin := fun ts ty w => run_min ts ty fr to_ w
  have hmax := fun ts ty w => run_max ts ty fr to_ w
  generalize minI fr to_ = mn at *
  generalize maxI fr to_ = mx at *
  obtain ⟨gA, gB, gC⟩ : ((fr == 0) == (to_ == 0)) = false ∧ decide (mn < 0) = false ∧ decide (T.clients < mx) = false := by simpa only [Bool.or_eq_false_iff, and_assoc] using hadr
  clear hadr
  unfold dgV
  have Hd0 := Lib.hid hd
  have Hp0 := proves_any m fr to_ (.slice A n c) sp
  have Hfr := Lib.hid fun w (h : TapAt w a r v e T) => fitsRec_any a r v e T m.rev m.op w h
  have Hfe := Lib.hid fun w (h : TapAt w a r v e T) => fitsEd_any a r v e T ⟨m.tag, m.op⟩ w h
  have HU1 := Lib.hid fun w (h : TapAt w a r v e T) => h.recs.update rec_under int_key m.rev m.op
  have HU2 := Lib.hid fun w (h : TapAt w a r v e { T with records := put T.records m.rev m.op }) => h.revs.update rev_under name_key (nameOf m.op) m.rev
  have HU3 := Lib.hid fun w (h : TapAt w a r v e T) => h.eds.update ed_under name_key (nameOf m.op) ⟨m.tag, m.op⟩
  have hmx := fun ts ty w => run_max ts ty T.epoch m.epoch w
  clear hd
  rw [hw] at Hp0
  generalize provV m = pv at Hp0
  clear hw Hfr Hfe HU1 HU2 HU3 hmx
  obtain ⟨k, ep, cl, hv, fi, nu, ac, rv, tg, ⟨ok, op, oc0, ol, os⟩⟩ := m
  unfold msgV msgCells opCells dgV at Hp0
  simp only [List.cons_append, List.nil_append] at Hp0
  try dsimp only at *
  have Hp := Lib.hid Hp0
  clear Hp0
  skip
  go_enter Tryz.func37, Tryz.ntmps37
  go_wp2
  rw [← HX.out]
  go_quiet (fail)
  clear z1 z2 hmin hmax gA gB gC
  have HT1 := Lib.hid (HT.out.frn ((Fr.refl _ _).drewN nq))
  have HF1 := Lib.hid (HF.out.drewN nq)
  have hD1 := HD.out.drewN nq
  have HD1 := Lib.hid hD1
  have z2 : ∀ i, (X.drewN nq).cell? ⟨w.heap.size, i, none⟩ = (#[.int .i64 fr, .int .i64 to_, .slice A n c, .bool sp] : Array Value)[i]? := fun i => Blk.cell hD1 i
  have Hd := Lib.hid (decode_any B A n c xs (X.drewN nq) (HG.out.fr ((Fr.refl None' _).drewN nq) fun _ h => h.elim) (HRB.out.frn ((Fr.refl _ _).drewN nq)) hc)
  clear hD1
  generalize X.drewN nq = X1 at *
  unfold DecPost at Hd
  rw [Hd0.out] at Hd
  dsimp only at Hd
  unfold msgV msgCells opCells at Hd
  simp only [List.cons_append, List.nil_append] at Hd
  go_wp2_with fail
  refine Hd.out.mono ?_
  rintro e1 w2 ⟨rfl, hf2⟩
  dsimp only
  obtain ⟨X2, hX2⟩ : ∃ X2 : World, X2 = w2.alloc (.cells #[.int .i64 k, .int .i64 ep, .int .i64 cl, .int .i64 hv, .int .i64 fi, .int .i64 nu, .int .i64 ac, .int .i64 rv, .int .i64 tg, .int .i64 ok, .int .i64 op, .int .u8 (oc0.toNat : Int), .int .i64 ol, .int .i64 os] 28) := ⟨_, rfl⟩
  have HX2 := Lib.hid hX2
  have hx2 : Fr None' X1 X2 := by rw [hX2]; exact hf2.alloc _
  have hM : Blk X2 w2.heap.size 28 #[.int .i64 k, .int .i64 ep, .int .i64 cl, .int .i64 hv, .int .i64 fi, .int .i64 nu, .int .i64 ac, .int .i64 rv, .int .i64 tg, .int .i64 ok, .int .i64 op, .int .u8 (oc0.toNat : Int), .int .i64 ol, .int .i64 os] := by rw [hX2]; exact Blk.new _ _ _
  clear hX2 z2
  have z2 : ∀ i, X2.cell? ⟨w.heap.size, i, none⟩ = (#[.int .i64 fr, .int .i64 to_, .slice A n c, .bool sp] : Array Value)[i]? := fun i => Blk.cell (HD1.out.fr hx2 fun h => h) i
  have z3 : ∀ i, X2.cell? ⟨w2.heap.size, i, none⟩ = (#[.int .i64 k, .int .i64 ep, .int .i64 cl, .int .i64 hv, .int .i64 fi, .int .i64 nu, .int .i64 ac, .int .i64 rv, .int .i64 tg, .int .i64 ok, .int .i64 op, .int .u8 (oc0.toNat : Int), .int .i64 ol, .int .i64 os] : Array Value)[i]? := fun i => Blk.cell hM i
  have HF2 := Lib.hid (HF1.out.trans' hx2)
  have HT2 := Lib.hid (HT1.out.frn hx2)
  have HM := Lib.hid hM
  have z4 : ∀ i, w2.cell? ⟨w.heap.size, i, none⟩ = (#[.int .i64 fr, .int .i64 to_, .slice A n c, .bool sp] : Array Value)[i]? := fun i => Blk.cell (HD1.out.fr hf2 fun h => h) i
  have l2 : w.heap.size < w2.heap.size := (HD1.out.fr hf2 fun h => h).lt
  clear hx2 hM hf2 Hd
  go_wp2_with fail
  rw [← HX2.out]
  refine (Hp.out _).mono ?_
  rintro e2 w3 ⟨rfl, hf3⟩
  dsimp only
  have HF3 := Lib.hid (HF2.out.trans' hf3)
  have HT3 := Lib.hid (HT2.out.frn hf3)
  have HM3 := Lib.hid (HM.out.fr hf3 fun h => h)
  clear hf3 z2 z3 z4 HD1 HD HM HT2 HF2 HT1 HF1 HT HF
  go_wp2_with (go_at_call 62; refine (He.out _ _ _).mono ?_; rintro e3 w4 ⟨g, rfl, hF, hf4⟩)
  go_ret
  exact ⟨_, rfl, .inr ⟨by simp, g, rfl, hF⟩, HT3.out.frn hf4, (HF3.out.trans' hf4).none⟩
end Go.Proofs.YtodkhoclbhdihaaGreatDoor
