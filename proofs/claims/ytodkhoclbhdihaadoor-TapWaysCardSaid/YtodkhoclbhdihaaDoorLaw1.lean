/-
  Contracts of Records, Doc, and of the statements' own small functions: ints, lines, copied, into, first.
-/
import Derived.Test.YtodkhoclbhdihaaDoorKnown
import Derived.Test.YtodkhoclbhdihaaDoorSee
namespace Go.Proofs.YtodkhoclbhdihaaDoor
open Go.RowKit

theorem records_any (a r v e : Nat) (T : GTap) (w : World) (hT : TapAt w a r v e T) (hlen : T.records.length ≤ 100000) :
    Calls Tryd.prog 17 #[.pointer (some ⟨a, 0, none⟩)] w fun ev w' => ∃ vl, ev = .returned vl ∧ w'.ownsRow w.heap.size OPT 5 vl (standF T.records).1.length (ops (standF T.records).1) ∧ Fr None' w w' := by
  have Hs := Lib.hid (stand_any a r v e T w hT hlen)
  clear hT hlen
  go_enter Tryd.func17, Tryd.ntmps17
  go_wp2_with (go_at_call 27; refine Hs.out.mono ?_; rintro e1 w1 ⟨vl, vt, rfl, h1, h2, h3⟩)
  go_ret
  exact ⟨vl, rfl, h1, h3⟩
theorem doc_any (a r v e : Nat) (T : GTap) (w : World) (hT : TapAt w a r v e T) (hlen : T.records.length ≤ 100000) :
    Calls Tryd.prog 15 #[.pointer (some ⟨a, 0, none⟩)] w fun ev w' => ∃ vt, ev = .returned vt ∧ w'.ownsRow w.heap.size ET 3 vt (standF T.records).2.length (els (standF T.records).2) ∧ Fr None' w w' := by
  have Hs := Lib.hid (stand_any a r v e T w hT hlen)
  clear hT hlen
  go_enter Tryd.func15, Tryd.ntmps15
  go_wp2_with (go_at_call 27; refine Hs.out.mono ?_; rintro e1 w1 ⟨vl, vt, rfl, h1, h2, h3⟩)
  go_ret
  exact ⟨vt, rfl, h2, h3⟩

theorem tmod64 (n : Int) : (-64 < n.tmod 64 ∧ n.tmod 64 < 64) ∧ (if n.tmod 64 < 0 then n.tmod 64 + 64 else n.tmod 64) = n % 64 := by
  rcases Int.le_total 0 n with h | h
  · have e := Int.tmod_eq_emod_of_nonneg (b := 64) h
    rw [e]
    constructor
    · omega
    · rw [if_neg (by omega)]
  · have e := Int.tmod_eq_emod_of_nonneg (b := 64) (show 0 ≤ -n by omega)
    rw [Int.neg_tmod] at e
    have e' : n.tmod 64 = -((-n) % 64) := by omega
    rw [e']
    constructor
    · omega
    · split <;> omega
theorem into_any (n : Int) (w : World) : Calls Tryd.prog 4 #[.int .i64 n, .int .i64 64] w fun e w' => e = .returned (.int .i64 (n % 64)) ∧ w = w' := by
  obtain ⟨hb, hq⟩ := tmod64 n
  have e1 : IntKind.i64.wrap (n.tmod 64) = n.tmod 64 := IntWalk.i64_in _ (by omega)
  have e2 : IntKind.i64.wrap (n.tmod 64 + 64) = n.tmod 64 + 64 := IntWalk.i64_in _ (by omega)
  have HQ := Lib.hid hq
  clear hq
  by_cases ht : n.tmod 64 < 0
  · have d1 : decide (n.tmod 64 < 0) = true := by simpa using ht
    have HT := Lib.hid ht
    clear ht
    go_enter Tryd.func4, Tryd.ntmps4
    go_wp2
    go_ret
    exact ⟨retI (by have := HQ.out; rw [if_pos HT.out] at this; exact this), rfl⟩
  · have d1 : decide (n.tmod 64 < 0) = false := by simpa using ht
    have HT := Lib.hid (show ¬ n.tmod 64 < 0 from ht)
    clear ht
    go_enter Tryd.func4, Tryd.ntmps4
    go_wp2
    go_ret
    exact ⟨retI (by have := HQ.out; rw [if_neg (by have := HT.out; omega)] at this; exact this), rfl⟩

def firstOp : GOp := ⟨1, 0, 97, 1, 1⟩
def firstM : GMsg := ⟨5, 1, 1, 0, 0, 1, 0, 1, 0, firstOp⟩
theorem first_any (w : World) : Calls Tryd.prog 10 #[] w fun e w' => e = .returned (msgV firstM) ∧ Fr None' w w' := by
  go_enter Tryd.func10, Tryd.ntmps10
  go_wp2
  exact bodyPost_ret (v := msgV firstM) (by simp [results, Tryd.results10, go_sem, msgV, msgCells, opCells, firstM, firstOp]) rfl ⟨rfl, (Fr.refl _ _).alloc _⟩

set_option maxHeartbeats 2000000 in
theorem ints_any (A B : Option Addr) (n m c d : Nat) (xs ys : List Int) (w : World) (ha : RI w A n xs) (hb : RI w B m ys) (hn : n ≤ 1000000) (hm : m ≤ 1000000) :
    Calls Tryd.prog 13 #[.slice A n c, .slice B m d] w fun e w' => e = .returned (.bool (decide (xs = ys))) ∧ Fr None' w w' := by
  have hl1 : xs.length = n := by have := ha.len1; rwa [List.length_map] at this
  have hl2 : ys.length = m := by have := hb.len1; rwa [List.length_map] at this
  by_cases hnm : n = m
  · subst hnm
    have q0 : ((n : Int) != (n : Int)) = false := by simp
    go_enter Tryd.func13, Tryd.ntmps13
    go_wp2
    go_loopw [5] (fun i wr => ∃ k : Nat, k ≤ n ∧ i = .int .i64 (k : Int) ∧ xs.take k = ys.take k ∧ Fr None' w wr) (fun i _ => n - (intOf i).toNat)
    case atStart => exact ⟨0, Nat.zero_le _, rfl, rfl, Fr.refl _ _⟩
    case round =>
      obtain ⟨k, hk, rfl, hpre, hf⟩ := hrel
      by_cases hlt : k < n
      · obtain ⟨b1, o1, u1, rfl, hb1, hx1, hc1⟩ := (ha.frn hf).at1 hlt
        obtain ⟨b2, o2, u2, rfl, hb2, hx2, hc2⟩ := (hb.frn hf).at1 hlt
        rw [List.getElem?_map, Option.map_eq_some_iff] at hx1 hx2
        obtain ⟨x1, hx1, rfl⟩ := hx1
        obtain ⟨x2, hx2, rfl⟩ := hx2
        unfold vi at hc1 hc2
        have HF := Lib.hid hf
        have HX1 := Lib.hid hx1
        have HX2 := Lib.hid hx2
        have HP := Lib.hid hpre
        clear hf hx1 hx2 hpre
        by_cases hq : x1 = x2
        · have q1 : (x1 != x2) = false := by simpa using hq
          have HQ := Lib.hid hq
          clear hq
          go_wp2
          go_quiet (fail)
          go_wp2
          go_round
          case rel => exact ⟨k + 1, by omega, by go_num, by rw [List.take_add_one, List.take_add_one, HX1.out, HX2.out, HP.out, HQ.out], HF.out.drewN _⟩
          case measure => simp [intOf]; omega
        · have q1 : (x1 != x2) = true := by simpa using hq
          have HQ := Lib.hid hq
          clear hq
          go_wp2
          go_quiet (fail)
          go_wp2
          go_ret
          refine ⟨retB ?_, HF.out.drewN _⟩
          symm
          rw [decide_eq_false]
          intro e
          have := HX1.out
          rw [e, HX2.out] at this
          exact HQ.out (Option.some.inj this).symm
      · have HF := Lib.hid hf
        have HP := Lib.hid hpre
        clear hf hpre
        go_wp2
        go_ret
        refine ⟨retB ?_, HF.out⟩
        symm
        rw [decide_eq_true]
        have := HP.out
        rwa [List.take_of_length_le (by omega), List.take_of_length_le (by omega)] at this
  · have q0 : ((n : Int) != (m : Int)) = true := by simp; omega
    go_enter Tryd.func13, Tryd.ntmps13
    go_wp2
    go_ret
    exact ⟨retB (by symm; rw [decide_eq_false]; intro e; subst e; omega), Fr.refl _ _⟩

/-! ### lists of operations -/
theorem ops_drop (d : List GOp) (k : Nat) : (ops d).drop (k * 5) = ops (d.drop k) := by
  unfold ops
  induction d generalizing k with
  | nil => simp
  | cons a d ih =>
    cases k with
    | zero => simp
    | succ k =>
      rw [List.flatMap_cons, List.drop_succ_cons, show (k + 1) * 5 = (opCells a).length + k * 5 by simp [opCells]; omega, List.drop_length_add_append, ih]
theorem op_at {w : World} {A : Option Addr} {n k : Nat} {l : List GOp} (h : Reads w 5 A n (ops l)) (hk : k < n) : ∃ b off o, A = some ⟨b, off, none⟩ ∧ b < w.heap.size ∧ l[k]? = some o ∧
    w.cell? ⟨b, off + k * 5, none⟩ = some (.int .i64 o.kind) ∧ w.cell? ⟨b, off + k * 5 + 1, none⟩ = some (.int .i64 o.pos) ∧ w.cell? ⟨b, off + k * 5 + 2, none⟩ = some (.int .u8 (o.ch.toNat : Int)) ∧
    w.cell? ⟨b, off + k * 5 + 3, none⟩ = some (.int .i64 o.client) ∧ w.cell? ⟨b, off + k * 5 + 4, none⟩ = some (.int .i64 o.seq) := by
  obtain ⟨b, off, rfl, hb, hc⟩ := h.2 (by omega)
  have hl : l.length = n := by have := h.1; rw [ops_len] at this; omega
  have hg : l[k]? = some l[k] := List.getElem?_eq_getElem (by omega)
  have hd : l.drop k = l[k] :: l.drop (k + 1) := List.drop_eq_getElem_cons (by omega)
  have hcell : ∀ j, j < 5 → w.cell? ⟨b, off + k * 5 + j, none⟩ = (opCells l[k])[j]? := fun j hj => by
    have hlen : (opCells l[k]).length = 5 := rfl
    have e : (ops l)[k * 5 + j]? = (opCells l[k])[j]? := by
      rw [← List.getElem?_drop, ops_drop, hd]
      show ((opCells l[k]) ++ ops (l.drop (k + 1)))[j]? = _
      rw [List.getElem?_append_left (by omega)]
    have hx : (opCells l[k])[j]? = some (opCells l[k])[j] := List.getElem?_eq_getElem (by omega)
    rw [hx] at e ⊢
    have := hc _ _ e
    rwa [← Nat.add_assoc] at this
  exact ⟨b, off, l[k], rfl, hb, hg, hcell 0 (by omega), hcell 1 (by omega), hcell 2 (by omega), hcell 3 (by omega), hcell 4 (by omega)⟩

set_option maxHeartbeats 2000000 in
theorem lines_any (A B : Option Addr) (n m c d : Nat) (xs ys : List GOp) (w : World) (ha : Reads w 5 A n (ops xs)) (hb : Reads w 5 B m (ops ys)) (hn : n ≤ 1000000) (hm : m ≤ 1000000) :
    Calls Tryd.prog 16 #[.slice A n c, .slice B m d] w fun e w' => e = .returned (.bool (decide (xs = ys))) ∧ Fr None' w w' := by
  have hl1 : xs.length = n := by have := ha.1; rw [ops_len] at this; omega
  have hl2 : ys.length = m := by have := hb.1; rw [ops_len] at this; omega
  by_cases hnm : n = m
  · subst hnm
    have q0 : ((n : Int) != (n : Int)) = false := by simp
    go_enter Tryd.func16, Tryd.ntmps16
    go_wp2
    go_loopw [5] (fun i wr => ∃ k : Nat, k ≤ n ∧ i = .int .i64 (k : Int) ∧ xs.take k = ys.take k ∧ Fr None' w wr) (fun i _ => n - (intOf i).toNat)
    case atStart => exact ⟨0, Nat.zero_le _, rfl, rfl, Fr.refl _ _⟩
    case round =>
      obtain ⟨k, hk, rfl, hpre, hf⟩ := hrel
      by_cases hlt : k < n
      · obtain ⟨b1, o1, x1, rfl, hb1, hx1, c10, c11, c12, c13, c14⟩ := op_at (ha.frn hf) hlt
        obtain ⟨b2, o2, x2, rfl, hb2, hx2, c20, c21, c22, c23, c24⟩ := op_at (hb.frn hf) hlt
        have hneq := fun w => neq_o5 x1 x2 w
        unfold o5 at hneq
        have HF := Lib.hid hf
        have HX1 := Lib.hid hx1
        have HX2 := Lib.hid hx2
        have HP := Lib.hid hpre
        clear hf hx1 hx2 hpre
        by_cases hq : x1 = x2
        · rw [decide_eq_true hq, Bool.not_true] at hneq
          have HQ := Lib.hid hq
          clear hq
          go_wp2
          go_quiet (fail)
          go_wp2
          go_round
          case rel => exact ⟨k + 1, by omega, by go_num, by rw [List.take_add_one, List.take_add_one, HX1.out, HX2.out, HP.out, HQ.out], HF.out.drewN _⟩
          case measure => simp [intOf]; omega
        · rw [decide_eq_false hq, Bool.not_false] at hneq
          have HQ := Lib.hid hq
          clear hq
          go_wp2
          go_quiet (fail)
          go_wp2
          go_ret
          refine ⟨retB ?_, HF.out.drewN _⟩
          symm
          rw [decide_eq_false]
          intro e
          have := HX1.out
          rw [e, HX2.out] at this
          exact HQ.out (Option.some.inj this).symm
      · have HF := Lib.hid hf
        have HP := Lib.hid hpre
        clear hf hpre
        go_wp2
        go_ret
        refine ⟨retB ?_, HF.out⟩
        symm
        rw [decide_eq_true]
        have := HP.out
        rwa [List.take_of_length_le (by omega), List.take_of_length_le (by omega)] at this
  · have q0 : ((n : Int) != (m : Int)) = true := by simp; omega
    go_enter Tryd.func16, Tryd.ntmps16
    go_wp2
    go_ret
    exact ⟨retB (by symm; rw [decide_eq_false]; intro e; subst e; omega), Fr.refl _ _⟩
end Go.Proofs.YtodkhoclbhdihaaDoor
