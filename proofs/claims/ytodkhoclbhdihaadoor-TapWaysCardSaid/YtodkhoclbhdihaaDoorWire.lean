/-
  Contracts of package wire: bounds, may, named, long, flat, lay.
-/
import Derived.Test.YtodkhoclbhdihaaDoorWireP
import Derived.Test.YtodkhoclbhdihaaDoorReader
namespace Go.Proofs.YtodkhoclbhdihaaDoor
open Go.RowKit

def vcells (v : V) : Array Value := #[.int .i64 (v 0), .int .i64 (v 1), .int .i64 (v 2), .int .i64 (v 3), .int .i64 (v 4), .int .i64 (v 5), .int .i64 (v 6), .int .i64 (v 7), .int .i64 (v 8), .int .i64 (v 9), .int .i64 (v 10), .int .i64 (v 11), .int .i64 (v 12), .int .i64 (v 13)]
/-- A variable of type values. -/
def Vals (w : World) (g : Nat) (v : V) : Prop := Blk w g 85 (vcells v)
theorem Vals.at_ {w : World} {g : Nat} {v : V} (h : Vals w g v) (f : Nat) (hf : f < 14) : w.cell? ⟨g, f, none⟩ = some (.int .i64 (v f)) := by
  have := Blk.cell h f
  rw [this]
  match f, hf with
  | 0, _ | 1, _ | 2, _ | 3, _ | 4, _ | 5, _ | 6, _ | 7, _ | 8, _ | 9, _ | 10, _ | 11, _ | 12, _ | 13, _ => rfl
theorem Vals.fr {w w' : World} {S : Nat → Prop} {g : Nat} {v : V} (h : Vals w g v) (hb : Fr S w w') (hs : ¬ S g) : Vals w' g v := Blk.fr h hb hs
theorem vcells_set (v : V) (f : Nat) (hf : f < 14) (x : Int) : (vcells v).setIfInBounds f (.int .i64 x) = vcells (setV v f x) := by
  match f, hf with
  | 0, _ | 1, _ | 2, _ | 3, _ | 4, _ | 5, _ | 6, _ | 7, _ | 8, _ | 9, _ | 10, _ | 11, _ | 12, _ | 13, _ => simp [vcells, setV]
theorem Vals.set_ {w : World} {g : Nat} {v : V} (h : Vals w g v) (f : Nat) (hf : f < 14) (x : Int) : Vals (w.setCell ⟨g, f, none⟩ (.int .i64 x)) g (setV v f x) := by
  unfold Vals
  rw [← vcells_set v f hf x]
  exact Blk.set_ h f _

theorem retB {a b : Bool} (h : a = b) : Ending.returned (.bool a) = .returned (.bool b) := by rw [h]
theorem retI {k : IntKind} {a b : Int} (h : a = b) : Ending.returned (.int k a) = .returned (.int k b) := by rw [h]
theorem ret2i {a b c d : Int} (h : a = b) (k : c = d) : Ending.returned (.tuple #[.int .i64 a, .int .i64 c]) = .returned (.tuple #[.int .i64 b, .int .i64 d]) := by rw [h, k]

set_option maxHeartbeats 1000000 in
theorem bounds_any (g f : Nat) (v : V) (mk : Int) (w : World) (hv : Vals w g v) (hf : f < 14) :
    Calls Tryd.prog 42 #[.int .i64 (f : Int), .pointer (some ⟨g, 0, none⟩), .int .i64 mk] w fun e w' => e = .returned (.tuple #[.int .i64 (loF f v mk), .int .i64 (hiF f v mk)]) ∧ w = w' := by
  have c9 := hv.at_ 9 (by omega)
  generalize hk : v 9 = k at c9
  have HK := Lib.hid hk
  clear hk hv
  obtain rfl | rfl | rfl | rfl | rfl | rfl | rfl | rfl | rfl | rfl | rfl | rfl | rfl | rfl : f = 0 ∨ f = 1 ∨ f = 2 ∨ f = 3 ∨ f = 4 ∨ f = 5 ∨ f = 6 ∨ f = 7 ∨ f = 8 ∨ f = 9 ∨ f = 10 ∨ f = 11 ∨ f = 12 ∨ f = 13 := by omega
  all_goals
    go_enter Tryd.func42, Tryd.ntmps42
    go_wp2
    all_goals
      go_ret2
      refine ⟨ret2i ?_ ?_, rfl⟩ <;> (simp [loF, hiF, HK.out]) <;> simp_all

/-! ### may -/
set_option maxHeartbeats 1000000 in
theorem may_any (g f : Nat) (v : V) (mk : Int) (w : World) (hv : Vals w g v) (hf : f < 14) :
    Calls Tryd.prog 30 #[.int .i64 (f : Int), .pointer (some ⟨g, 0, none⟩), .int .i64 mk] w fun e w' => e = .returned (.bool (mayB f v mk)) ∧ w = w' := by
  have Hb := Lib.hid (bounds_any g f v mk w hv hf)
  have cf := hv.at_ f hf
  have hf1 : (f : Int) < 14 := by omega
  clear hv
  generalize hl : loF f v mk = lo at Hb
  generalize hh : hiF f v mk = hi at Hb
  have HM : Hid (mayB f v mk = (decide (lo ≤ v f) && decide (v f ≤ hi))) := by unfold mayB; rw [hl, hh]; rfl
  clear hl hh
  generalize v f = x at cf HM
  by_cases h1 : lo ≤ x
  · have d1 : decide (lo ≤ x) = true := by simpa using h1
    go_enter Tryd.func30, Tryd.ntmps30
    go_wp2_with (go_at_call 42; refine Hb.out.mono ?_; rintro e w' ⟨rfl, rfl⟩)
    go_ret
    exact ⟨by rw [HM.out, d1]; simp, rfl⟩
  · have d1 : decide (lo ≤ x) = false := by simpa using h1
    go_enter Tryd.func30, Tryd.ntmps30
    go_wp2_with (go_at_call 42; refine Hb.out.mono ?_; rintro e w' ⟨rfl, rfl⟩)
    go_ret
    exact ⟨by rw [HM.out, d1]; simp, rfl⟩

/-! ### lists of field numbers -/
def nv (f : Nat) : Value := .int .i64 (f : Int)
abbrev RN (w : World) (A : Option Addr) (n : Nat) (l : List Nat) : Prop := Reads w 1 A n (l.map nv)
theorem RN.at_ {w : World} {A : Option Addr} {n k : Nat} {l : List Nat} (h : RN w A n l) (hk : k < n) : ∃ b off f, A = some ⟨b, off, none⟩ ∧ b < w.heap.size ∧ l[k]? = some f ∧ w.cell? ⟨b, off + k, none⟩ = some (.int .i64 (f : Int)) := by
  obtain ⟨b, off, u, hA, hb, hx, hc⟩ := h.at1 hk
  rw [List.getElem?_map, Option.map_eq_some_iff] at hx
  obtain ⟨u', hu, rfl⟩ := hx
  exact ⟨b, off, u', hA, hb, hu, hc⟩
theorem RN.len {w : World} {A : Option Addr} {n : Nat} {l : List Nat} (h : RN w A n l) : l.length = n := by
  have := h.len1
  rwa [List.length_map] at this

theorem named_any (A : Option Addr) (n c : Nat) (sh : List Nat) (f : Nat) (w : World) (ha : RN w A n sh) (hn : n ≤ 1000) :
    Calls Tryd.prog 29 #[.slice A n c, .int .i64 (f : Int)] w fun e w' => e = .returned (.bool (namedB sh f)) ∧ w = w' := by
  have HL := Lib.hid ha.len
  go_enter Tryd.func29, Tryd.ntmps29
  go_wp2
  go_loop [9] (fun i => ∃ k : Nat, k ≤ n ∧ i = .int .i64 k ∧ (sh.take k).contains f = false) (fun i => n - (intOf i).toNat)
  case atStart => exact ⟨0, Nat.zero_le _, rfl, rfl⟩
  case round =>
    obtain ⟨k, hk, rfl, hpre⟩ := hrel
    have HP := Lib.hid hpre
    clear hpre
    by_cases hlt : k < n
    · obtain ⟨b, off, g, rfl, hb, hx, hc⟩ := ha.at_ hlt
      have HX := Lib.hid hx
      clear hx
      by_cases hq : g = f
      · subst hq
        have HN : Hid (namedB sh g = true) := by
          show namedB sh g = true
          unfold namedB
          simpa using List.mem_of_getElem? HX.out
        go_wp2
        go_ret
        exact ⟨retB HN.out.symm, rfl⟩
      · have hb1 : ((g : Int) == (f : Int)) = false := by simp; omega
        have HN : Hid ((sh.take (k + 1)).contains f = false) := by
          show (sh.take (k + 1)).contains f = false
          have := HP.out
          rw [List.take_add_one, HX.out]
          simp at this ⊢
          exact ⟨this, fun e => hq e.symm⟩
        clear hq
        go_wp2
        go_round
        case rel => exact ⟨k + 1, by omega, by go_num, HN.out⟩
        case measure => simp [intOf]; omega
    · have HN : Hid (namedB sh f = false) := by
        have := HP.out
        rw [List.take_of_length_le (by have := HL.out; omega)] at this
        exact this
      go_wp2
      go_ret
      exact ⟨retB HN.out.symm, rfl⟩

/-- The widths of the fields lie in their variable. -/
def SizeG (w : World) : Prop := ∀ f, f < 14 → w.cell? ⟨1, f, none⟩ = some (.int .i64 (sz f : Int))
theorem SizeG.fr {w w' : World} {S : Nat → Prop} (h : SizeG w) (hf : Fr S w w') (hs : ¬ S 1) : SizeG w' := fun f hl =>
  (hf.cell (p := ⟨1, f, none⟩) (lt_of_cell (h f hl)) hs).trans (h f hl)
theorem sz_le (f : Nat) : sz f ≤ 2 := by
  unfold sz
  match f with
  | 0 | 1 | 2 | 3 | 4 | 5 | 6 | 7 | 8 | 9 | 10 | 11 | 12 | 13 => decide
  | n + 14 => simp [List.getD]
theorem lenF_take {sh : List Nat} {k f : Nat} (h : sh[k]? = some f) : lenF (sh.take (k + 1)) = lenF (sh.take k) + sz f := by
  unfold lenF
  rw [List.take_add_one, h]
  simp

theorem long_any (A : Option Addr) (n c : Nat) (sh : List Nat) (w : World) (hG : SizeG w) (ha : RN w A n sh) (hs : ∀ f ∈ sh, f < 14) (hn : n ≤ 1000) :
    Calls Tryd.prog 37 #[.slice A n c] w fun e w' => e = .returned (.int .i64 (1 + (lenF sh : Int))) ∧ w = w' := by
  have HL := Lib.hid ha.len
  go_enter Tryd.func37, Tryd.ntmps37
  go_wp2
  go_loop [3, 8] (fun s i => ∃ k : Nat, k ≤ n ∧ i = .int .i64 k ∧ ∃ m : Nat, s = .int .i64 (m : Int) ∧ m ≤ 1 + 2 * k ∧ m = 1 + lenF (sh.take k)) (fun _ i => n - (intOf i).toNat)
  case atStart => exact ⟨0, Nat.zero_le _, rfl, 1, rfl, by omega, rfl⟩
  case round =>
    obtain ⟨k, hk, rfl, m, rfl, hm, hm2⟩ := hrel
    have HM := Lib.hid hm2
    clear hm2
    by_cases hlt : k < n
    · obtain ⟨b, off, f, rfl, hb, hx, hc⟩ := ha.at_ hlt
      have hf : f < 14 := hs f (List.mem_of_getElem? hx)
      have hcs := hG f hf
      have hsz := sz_le f
      have HX := Lib.hid hx
      have hf2 : (f : Int) < 14 := by omega
      clear hx
      have HN := Lib.hid (lenF_take HX.out)
      go_wp2
      go_round
      case rel => exact ⟨k + 1, by omega, by go_num, m + sz f, by go_num, by omega, by rw [HN.out, HM.out]; omega⟩
      case measure => simp [intOf]; omega
    · have HN : Hid ((m : Int) = 1 + (lenF sh : Int)) := by
        show (m : Int) = 1 + (lenF sh : Int)
        have := HM.out
        rw [List.take_of_length_le (by have := HL.out; omega)] at this
        omega
      go_wp2
      go_ret
      exact ⟨retI HN.out, rfl⟩

/-! ### a message flat -/
def opCells (o : GOp) : List Value := [.int .i64 o.kind, .int .i64 o.pos, .int .u8 (o.ch.toNat : Int), .int .i64 o.client, .int .i64 o.seq]
def msgCells (m : GMsg) : List Value := [.int .i64 m.kind, .int .i64 m.epoch, .int .i64 m.client, .int .i64 m.have_, .int .i64 m.first, .int .i64 m.num, .int .i64 m.ack, .int .i64 m.rev, .int .i64 m.tag] ++ opCells m.op
def msgV (m : GMsg) : Value := .agg (msgCells m).toArray

theorem flat_any (m : GMsg) (w : World) : Calls Tryd.prog 28 #[msgV m] w fun e w' => e = .returned (.agg (vcells (flat m))) ∧ Fr None' w w' := by
  have hu := u8_lt m.op.ch
  unfold msgV msgCells opCells
  go_enter Tryd.func28, Tryd.ntmps28
  go_wp2
  exact bodyPost_ret (v := .agg (vcells (flat m))) (by simp [results, Tryd.results28, go_sem, vcells, flat, flatL]) rfl ⟨rfl, ((Fr.refl _ _).alloc _).alloc _⟩

end Go.Proofs.YtodkhoclbhdihaaDoor
