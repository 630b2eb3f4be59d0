/-
  Contracts of octet's Reader, where what is asked for is there.
-/
import Derived.Test.YtodkhoclbhdihaaDoorOcteu
namespace Go.Proofs.YtodkhoclbhdihaaDoor
open Go.RowKit

/-- A reader at place p of a row of N bytes. -/
def Rd (w : World) (r b off N c p : Nat) : Prop := Blk w r 173 #[.slice (some ⟨b, off, none⟩) N c, .int .i64 (p : Int), .nilIface]

theorem newReader_any (A : Option Addr) (n c : Nat) (xs : List UInt8) (w : World) (ha : RB w A n xs) (hn : n ≤ 10000) :
    Calls Tryd.prog 64 #[.slice A n c] w fun e w' => ∃ r b, e = .returned (.pointer (some ⟨r, 0, none⟩)) ∧ w.heap.size ≤ r ∧ w.heap.size ≤ b ∧ r ≠ b ∧ Rd w' r b 0 n n 0 ∧ Blk w' b 5 (xs.map bv).toArray ∧ Fr None' w w' := by
  have hl := ha.len1
  have Hw := Lib.hid (with_any A none n 0 c 0 xs [] w ha Reads.nil (by omega))
  rw [List.append_nil] at Hw
  rw [List.length_map] at hl
  have HL := Lib.hid hl
  clear hl
  go_enter Tryd.func64, Tryd.ntmps64
  go_wp2_with fail
  refine Hw.out.mono ?_
  rintro e w1 ⟨v, rfl, ⟨g, hg, rfl, hb⟩, hf⟩
  rw [HL.out]
  have HB := Lib.hid hb
  have HF := Lib.hid hf
  have HG := Lib.hid hg
  clear hb hf hg
  go_wp2
  go_ret
  exact ⟨_, g, rfl, HF.out.size, HG.out, by have := HB.out.lt; omega, Blk.new _ _ _, HB.out.alloc _, HF.out.alloc _⟩

theorem rdAt_any (r b off N c p : Nat) (w : World) (hr : Rd w r b off N c p) : Calls Tryd.prog 67 #[.pointer (some ⟨r, 0, none⟩)] w fun e w' => e = .returned (.int .i64 (p : Int)) ∧ w = w' := by
  have c1 := Blk.cell hr 1
  go_enter Tryd.func67, Tryd.ntmps67
  go_wp2
  go_ret
  exact ⟨rfl, rfl⟩

theorem next_ok (r b off N c p m : Nat) (w : World) (hr : Rd w r b off N c p) (hm : 0 < m) (hp : p + m ≤ N) (hc : N ≤ c) (hN : N ≤ 10000) :
    Calls Tryd.prog 83 #[.pointer (some ⟨r, 0, none⟩), .int .i64 (m : Int)] w fun e w' => e = .returned (.slice (some ⟨b, off + p, none⟩) m (c - p)) ∧ Rd w' r b off N c (p + m) ∧ Fr (Only r) w w' := by
  have c0 : w.cell? ⟨r, 0, none⟩ = some (.slice (some ⟨b, off, none⟩) N c) := Blk.cell hr 0
  have c1 : w.cell? ⟨r, 1, none⟩ = some (.int .i64 (p : Int)) := Blk.cell hr 1
  have c2 : w.cell? ⟨r, 2, none⟩ = some .nilIface := Blk.cell hr 2
  have f1 : w.frozen? ⟨r, 1, none⟩ = false := Blk.frozen hr 1
  have h1 : decide ((m : Int) < 0) = false := by simp
  have h2 : decide (((N : Int) - (p : Int)) < (m : Int)) = false := by simp; omega
  have e1 : IntKind.i64.wrap ((N : Int) - (p : Int)) = (N : Int) - (p : Int) := IntWalk.i64_in _ (by omega)
  have e2 : IntKind.i64.wrap ((p : Int) + (m : Int)) = (p : Int) + (m : Int) := IntWalk.i64_in _ (by omega)
  have e3 : (0 : Int) ≤ (p : Int) + (m : Int) := by omega
  have e4 : ((p : Int) + (m : Int)).toNat = p + m := by omega
  have e5 : p + m ≤ c := by omega
  have e6 : p < c := by omega
  have e7 : ¬ c = p := by omega
  have HR := Lib.hid hr
  clear hr
  go_enter Tryd.func83, Tryd.ntmps83
  go_wp2
  go_quiet (fail)
  go_wp2
  go_quiet (fail)
  go_wp2
  go_ret
  refine ⟨rfl, ?_, (Fr.drewN (Fr.refl _ _) _).setCell (.inr (show r = r from rfl)) _⟩
  exact Blk.set_ (Blk.drewN HR.out _) 1 _

/-- What a reader reads: the bytes xs, from place p on. -/
structure Reading (w : World) (r b : Nat) (xs : List UInt8) (p : Nat) : Prop where
  rd : Rd w r b 0 xs.length xs.length p
  ne : r ≠ b
  blk : Blk w b 5 (xs.map bv).toArray

theorem Reading.byte {w : World} {r b : Nat} {xs : List UInt8} {p i : Nat} {u : UInt8} (h : Reading w r b xs p) (hi : xs[i]? = some u) : w.cell? ⟨b, i, none⟩ = some (.int .u8 (u.toNat : Int)) := by
  rw [h.blk.cell]
  simp [hi, bv]

theorem or0 (u : UInt8) : bits .or .u32 0 (u.toNat : Int) = (u.toNat : Int) := by
  have := u32_or_nat 0 u.toNat (by omega) (by have := u.toNat_lt; omega)
  rw [Nat.zero_or] at this
  exact this
theorem or8 (u v : UInt8) : bits .or .u32 ((u.toNat : Int) * 256) (v.toNat : Int) = (u.toNat : Int) * 256 + (v.toNat : Int) := by
  have h1 := u.toNat_lt
  have h2 := v.toNat_lt
  have := u32_or_nat (u.toNat * 256) v.toNat (by omega) (by omega)
  rw [nat_join 8 _ _ (by omega) (by omega)] at this
  rw [show ((u.toNat * 256 : Nat) : Int) = (u.toNat : Int) * 256 from by omega, show ((u.toNat * 256 + v.toNat : Nat) : Int) = (u.toNat : Int) * 256 + (v.toNat : Int) from by omega] at this
  exact this

theorem number1 (r b p : Nat) (xs : List UInt8) (u : UInt8) (w : World) (hr : Reading w r b xs p) (h0 : xs[p]? = some u) (hN : xs.length ≤ 10000) :
    Calls Tryd.prog 79 #[.pointer (some ⟨r, 0, none⟩), .int .i64 1] w fun e w' => e = .returned (.int .u32 (u.toNat : Int)) ∧ Reading w' r b xs (p + 1) ∧ Fr (Only r) w w' := by
  have hp : p < xs.length := (List.getElem?_eq_some_iff.1 h0).1
  have Hn := Lib.hid (next_ok r b 0 xs.length xs.length p 1 w hr.rd (by omega) (by omega) (Nat.le_refl _) hN)
  have o1 := or0 u
  have hu := u8_lt u
  have H := Lib.hid hr
  have H0 := Lib.hid h0
  clear hr h0
  go_enter Tryd.func79, Tryd.ntmps79
  go_wp2_with fail
  refine Hn.out.mono ?_
  rintro e w1 ⟨rfl, hr1, hf1⟩
  have R1 : Reading w1 r b xs (p + 1) := ⟨hr1, H.out.ne, H.out.blk.fr hf1 (fun h => H.out.ne h.symm)⟩
  have b0 := R1.byte H0.out
  have HR := Lib.hid R1
  have HF := Lib.hid hf1
  clear R1 hr1 hf1
  go_wp2
  refine wp_loop_rounds 2 ?_
  rw [rounds_succ]
  go_wp2
  rw [rounds_succ]
  go_wp2
  go_ret
  exact ⟨rfl, HR.out, HF.out⟩

theorem number2 (r b p : Nat) (xs : List UInt8) (u v : UInt8) (w : World) (hr : Reading w r b xs p) (h0 : xs[p]? = some u) (h1 : xs[p + 1]? = some v) (hN : xs.length ≤ 10000) :
    Calls Tryd.prog 79 #[.pointer (some ⟨r, 0, none⟩), .int .i64 2] w fun e w' => e = .returned (.int .u32 ((u.toNat : Int) * 256 + (v.toNat : Int))) ∧ Reading w' r b xs (p + 2) ∧ Fr (Only r) w w' := by
  have hp : p + 1 < xs.length := (List.getElem?_eq_some_iff.1 h1).1
  have Hn := Lib.hid (next_ok r b 0 xs.length xs.length p 2 w hr.rd (by omega) (by omega) (Nat.le_refl _) hN)
  have o1 := or0 u
  have o2 := or8 u v
  have hu := u8_lt u
  have hv := u8_lt v
  have H := Lib.hid hr
  have H0 := Lib.hid h0
  have H1 := Lib.hid h1
  clear hr h0 h1
  go_enter Tryd.func79, Tryd.ntmps79
  go_wp2_with fail
  refine Hn.out.mono ?_
  rintro e w1 ⟨rfl, hr1, hf1⟩
  have R1 : Reading w1 r b xs (p + 2) := ⟨hr1, H.out.ne, H.out.blk.fr hf1 (fun h => H.out.ne h.symm)⟩
  have b0 := R1.byte H0.out
  have b1 := R1.byte H1.out
  have HR := Lib.hid R1
  have HF := Lib.hid hf1
  clear R1 hr1 hf1
  go_wp2
  refine wp_loop_rounds 3 ?_
  rw [rounds_succ]
  go_wp2
  rw [rounds_succ]
  go_wp2
  rw [rounds_succ]
  go_wp2
  go_ret
  exact ⟨rfl, HR.out, HF.out⟩

theorem u8_any (r b p : Nat) (xs : List UInt8) (u : UInt8) (w : World) (hr : Reading w r b xs p) (h0 : xs[p]? = some u) (hN : xs.length ≤ 10000) :
    Calls Tryd.prog 65 #[.pointer (some ⟨r, 0, none⟩)] w fun e w' => e = .returned (.int .i64 (u.toNat : Int)) ∧ Reading w' r b xs (p + 1) ∧ Fr (Only r) w w' := by
  have H := Lib.hid (number1 r b p xs u w hr h0 hN)
  have hu := u8_lt u
  clear hr h0
  go_enter Tryd.func65, Tryd.ntmps65
  go_wp2_with (go_at_call 79; refine H.out.mono ?_; rintro e w1 ⟨rfl, hr1, hf1⟩)
  go_ret
  exact ⟨rfl, hr1, hf1⟩

theorem u16_any (r b p : Nat) (xs : List UInt8) (u v : UInt8) (w : World) (hr : Reading w r b xs p) (h0 : xs[p]? = some u) (h1 : xs[p + 1]? = some v) (hN : xs.length ≤ 10000) :
    Calls Tryd.prog 66 #[.pointer (some ⟨r, 0, none⟩)] w fun e w' => e = .returned (.int .i64 ((u.toNat : Int) * 256 + (v.toNat : Int))) ∧ Reading w' r b xs (p + 2) ∧ Fr (Only r) w w' := by
  have H := Lib.hid (number2 r b p xs u v w hr h0 h1 hN)
  have hu := u8_lt u
  have hv := u8_lt v
  clear hr h0 h1
  go_enter Tryd.func66, Tryd.ntmps66
  go_wp2_with (go_at_call 79; refine H.out.mono ?_; rintro e w1 ⟨rfl, hr1, hf1⟩)
  go_ret
  exact ⟨rfl, hr1, hf1⟩
end Go.Proofs.YtodkhoclbhdihaaDoor
