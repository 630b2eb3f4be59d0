/-
  Contracts of errors.Is and api.Code over the errors that Wrap makes.
-/
import Derived.Test.YtodkhoclbhdihaaGreatDoorZ0
import Derived.BigQuiet
import Derived.Deep.QuietTactic
import Derived.StillTail
import Derived.Laws.EntriesVeiled
namespace Go.Proofs.YtodkhoclbhdihaaGreatDoor
open Go.RowKit Go.Extern.Stop Go.Stop Go.Extern

theorem eql_fault_errno (e : Addr) (c : Int) (w : World) : (binOp .eql 80 (.iface 145 (.pointer (some e))) (.iface 35 (.int .i64 c))).run Tryz.prog w = .ok (.bool false) w := by kernel_rfl
theorem eql_errno (a b : Int) (w : World) : (binOp .eql 80 (.iface 35 (.int .i64 a)) (.iface 35 (.int .i64 b))).run Tryz.prog w = .ok (.bool (a == b)) w := by kernel_rfl
theorem A.comparableE (w : World) : (ReflectliteType.method (fun t => do Rtype.noPackHeld "Comparable" t; (fun a : TypeInfo => Value.bool a.comparable) <$> typeInfo t) #[.agg #[.pointer (some ⟨4, 35, none⟩)]]).run Tryz.prog w = .ok (.bool true) w := by kernel_rfl
set_option maxHeartbeats 4000000 in
theorem is_any (g : Nat) (a c k : Int) (w : World) (hF : Fault w g a c) :
    Calls Tryz.prog 99 #[errV g, .iface 35 (.int .i64 k)] w fun ev w' => ev = .returned (.bool (c == k)) ∧ w = w' := by
  have hTO := @run_callFunc_extern Tryz.prog 138 _ ReflectliteType.typeOf Tryz.func138 (by kernel_rfl) (by kernel_rfl) (by kernel_rfl) (by kernel_rfl)
  have hCm := @run_callFunc_extern Tryz.prog 196 _ (ReflectliteType.method (fun t => do Rtype.noPackHeld "Comparable" t; pure (.bool (← typeInfo t).comparable))) Tryz.func196 (by kernel_rfl) (by kernel_rfl) (by kernel_rfl) (by kernel_rfl)
  have tE := A.typeOfE
  have mC := A.methodComparable
  have cE := A.comparableE
  have e1 := eql_fault_errno ⟨g, 0, none⟩ k
  have e2 := eql_errno c k
  have nI := A.noIs ⟨g, 0, none⟩
  have nE := A.noIsE c
  have uE := A.noUnwrapE c
  have sE := A.noUnwrapsE c
  have hU := A.hasUnwrap ⟨g, 0, none⟩
  have mU := A.methodUnwrap ⟨g, 0, none⟩
  have Hu := Lib.hid (unwrap_any g a c w hF)
  clear hF
  unfold errV
  by_cases h : c = k
  · have hk : (c == k) = true := by simp [h]
    have HK := Lib.hid h
    clear h
    go_enter Tryz.func99, Tryz.ntmps99
    go_wp2
    refine wp_loop_rounds 2 ?_
    rw [rounds_succ]
    go_wp2_with (first | (go_at_call 190; refine Hu.out.mono ?_; rintro e1 w1 ⟨rfl, rfl⟩) | go_in)
    rw [rounds_succ]
    go_wp2
    go_ret
    exact ⟨by rw [hk]; rfl, rfl⟩
  · have hk : (c == k) = false := by simp [h]
    have HK := Lib.hid h
    clear h
    go_enter Tryz.func99, Tryz.ntmps99
    go_wp2
    refine wp_loop_rounds 2 ?_
    rw [rounds_succ]
    go_wp2_with (first | (go_at_call 190; refine Hu.out.mono ?_; rintro e1 w1 ⟨rfl, rfl⟩) | go_in)
    rw [rounds_succ]
    go_wp2
    go_ret
    exact ⟨by rw [hk]; rfl, rfl⟩

/-- The error's Errno. -/
theorem code_nil (w : World) : Calls Tryz.prog 41 #[.nilIface] w fun ev w' => ev = .returned (.int .i64 0) ∧ Fr None' w w' := by
  go_enter Tryz.func41, Tryz.ntmps41
  go_wp2
  go_ret
  exact ⟨rfl, (Fr.refl _ _).alloc _⟩

theorem fr_as {w w0 : World} {t : Nat} {a b c d : Obj} {v : Value} (h : Fr None' w w0) (ht : w.heap.size ≤ t) : Fr None' w (((((w0.alloc a).alloc b).alloc c).alloc d).setCell ⟨t, 0, none⟩ v) :=
  ((((h.alloc a).alloc b).alloc c).alloc d).setCell (.inl ht) v

theorem code_fault (g : Nat) (a c : Int) (w : World) (hg : ErrT w) (hF : Fault w g a c) :
    Calls Tryz.prog 41 #[errV g] w fun ev w' => ev = .returned (.int .i64 c) ∧ Fr None' w w' := by
  have hg1 : ErrT (w.alloc (.cells #[.int .i64 0] 35)) := by
    unfold ErrT at *
    rw [World.cell?_alloc_lt _ _ ⟨2, 0, none⟩ (lt_of_cell hg)]
    exact hg
  have Hc := Lib.hid (as_errno0 g a c ⟨w.heap.size, 0, none⟩ (.int .i64 0) _ hg1 (hF.alloc _) (by simp) (Blk.frozen (Blk.new w 35 #[.int .i64 0]) 0))
  clear hF hg hg1
  unfold errV at *
  go_enter Tryz.func41, Tryz.ntmps41
  go_wp2_with (go_at_call 74; refine Hc.out.mono ?_; rintro e w' ⟨rfl, rfl⟩)
  go_ret
  exact ⟨rfl, (((((Fr.refl _ _).alloc _).alloc _).alloc _).alloc _).alloc _⟩

theorem fr_as' {w : World} {t : Addr} {a b c d : Obj} {v : Value} : Fr (Only t.block) w (((((w.alloc a).alloc b).alloc c).alloc d).setCell t v) :=
  Fr.setCell (S := Only t.block) (((((Fr.refl _ _).alloc a).alloc b).alloc c).alloc d) (.inr (show t.block = t.block from rfl)) v

/-- errors.As at a *Fault variable: it gets the pointer. -/
theorem as_fault (g t : Nat) (ty : TypeId) (old : Value) (w : World) (hg : ErrT w) (hb : Blk w t ty #[old]) :
    Calls Tryz.prog 74 #[errV g, .iface 146 (.pointer (some ⟨t, 0, none⟩))] w fun ev w' => ev = .returned (.bool true) ∧ Blk w' t ty #[.pointer (some ⟨g, 0, none⟩)] ∧ Fr (Only t) w w' := by
  refine (as_fault0 ⟨g, 0, none⟩ ⟨t, 0, none⟩ old w hg (hb.cell 0) (hb.frozen 0)).mono fun e w' h => ⟨h.1, ?_, ?_⟩
  · rw [h.2]
    exact Blk.set_ ((((hb.alloc _).alloc _).alloc _).alloc _) 0 _
  · rw [h.2]
    exact fr_as' (t := ⟨t, 0, none⟩)

theorem ErrT.fr {w w' : World} {S : Nat → Prop} (h : ErrT w) (hf : Fr S w w') (hs : ¬ S 2) : ErrT w' := by
  unfold ErrT at *
  rw [hf.cell (p := ⟨2, 0, none⟩) (lt_of_cell h) hs]
  exact h

end Go.Proofs.YtodkhoclbhdihaaGreatDoor

/-
  Contracts of package octet, more: the sum taken off, and the reader.
-/
namespace Go.Proofs.YtodkhoclbhdihaaGreatDoor
open Go.RowKit

theorem open_short (A : Option Addr) (n c : Nat) (w : World) (hn : n < 4) :
    Calls Tryz.prog 98 #[.slice A n c] w fun e w' => ∃ g, e = .returned (.tuple #[.slice none 0 0, errV g]) ∧ Fault w' g n 10 ∧ Fr None' w w' := by
  have Hw := Lib.hid (wrap_any n 10 w)
  go_enter Tryz.func98, Tryz.ntmps98
  go_wp2_with (go_at_call 62; refine Hw.out.mono ?_; rintro e w' ⟨rfl, hF, rfl⟩)
  go_ret2
  exact ⟨_, rfl, hF, (Fr.refl _ _).alloc _⟩

theorem sum4_at (s i : Nat) (hi : i < 4) : (sum4 s)[i]? = some (lo8 (s / 2 ^ (8 * i))) := by
  obtain rfl | rfl | rfl | rfl : i = 0 ∨ i = 1 ∨ i = 2 ∨ i = 3 := by omega
  all_goals simp [sum4]

theorem ne_lo8_t (u : UInt8) (m : Nat) (M : Int) (hM : M = m) (h : u ≠ lo8 m) : ((u.toNat : Int) != M % 256) = true := by
  subst hM
  rw [bne_iff_ne]
  intro e
  exact h (UInt8.toNat_inj.1 (by rw [lo8_nat]; omega))
theorem ne_lo8_f (u : UInt8) (m : Nat) (M : Int) (hM : M = m) (h : u = lo8 m) : ((u.toNat : Int) != M % 256) = false := by
  subst hM h
  rw [lo8_nat]
  simp
theorem pre_snoc {α : Type} {D S : List α} {j : Nat} {u : α} (h : D.take j = S.take j) (h1 : D[j]? = some u) (h2 : S[j]? = some u) : D.take (j + 1) = S.take (j + 1) := by
  rw [List.take_add_one, List.take_add_one, h, h1, h2]
theorem pre_ne {α : Type} {D S : List α} {j : Nat} {u v : α} (h1 : D[j]? = some u) (h2 : S[j]? = some v) (h : u ≠ v) : D ≠ S := by
  intro e
  subst e
  rw [h1] at h2
  cases h2
  exact h rfl

theorem open_any (b off n c : Nat) (xs : List UInt8) (w : World) (hT : Tab w) (ha : RB w (some ⟨b, off, none⟩) n xs) (h4 : 4 ≤ n) (hc : n ≤ c) (hn : n ≤ 10000) :
    Calls Tryz.prog 98 #[.slice (some ⟨b, off, none⟩) n c] w fun e w' =>
      (xs.drop (n - 4) = sum4 (crc (xs.take (n - 4))) ∧ ∃ v, e = .returned (.tuple #[v, .nilIface]) ∧ NewB w w' v (xs.take (n - 4)) ∧ Fr None' w w') ∨
      (xs.drop (n - 4) ≠ sum4 (crc (xs.take (n - 4))) ∧ ∃ g, e = .returned (.tuple #[.slice none 0 0, errV g]) ∧ Fault w' g (n - 4 : Nat) 11 ∧ Fr None' w w') := by
  obtain ⟨k, rfl⟩ : ∃ k, n = k + 4 := ⟨n - 4, by omega⟩
  rw [Nat.add_sub_cancel]
  have hl := ha.len1
  rw [List.length_map] at hl
  have htk : RB w (some ⟨b, off, none⟩) k (xs.take k) := by
    have := ha.take (k := k) (by omega)
    rwa [Nat.mul_one, ← List.map_take] at this
  have Hs := Lib.hid (sum_any (some ⟨b, off, none⟩) k c (xs.take k) w hT htk (by omega))
  have Hw := Lib.hid fun q => with_any (some ⟨b, off, none⟩) none k 0 c 0 (xs.take k) [] (w.drewN q) (htk.frn ((Fr.refl _ _).drewN q)) Reads.nil (by omega)
  rw [List.append_nil] at Hw
  have He := Lib.hid fun w => wrap_any k 11 w
  have hd4 : decide ((k : Int) + 4 < 4) = false := by simp; omega
  go_enter Tryz.func98, Tryz.ntmps98
  go_wp2_with (first | (go_at_call 134; refine Hs.out.mono ?_; rintro e w' ⟨rfl, rfl⟩))
  have hs := crc_lt (xs.take k)
  generalize hS : crc (xs.take k) = s at hs
  have HS := Lib.hid hS
  clear hS Hs
  go_loopw [20] (fun i wr => ∃ j q : Nat, j ≤ 4 ∧ i = .int .i64 j ∧ wr = w.drewN q ∧ (xs.drop k).take j = (sum4 s).take j) (fun i _ => 4 - (intOf i).toNat)
  case atStart => exact ⟨0, 0, Nat.zero_le _, rfl, rfl, rfl⟩
  case round =>
    obtain ⟨j, q, hj, rfl, rfl, hpre⟩ := hrel
    have HP := Lib.hid hpre
    clear hpre
    by_cases hlt : j < 4
    · obtain ⟨b', off', u, hA, hb, hx, hcell⟩ := ha.at_ (k := k + j) (by omega)
      cases hA
      obtain rfl | rfl | rfl | rfl : j = 0 ∨ j = 1 ∨ j = 2 ∨ j = 3 := by omega
      · rw [Nat.add_zero] at hcell
        have e1 : IntKind.i64.wrap (k : Int) = (k : Int) := IntWalk.i64_in _ (by omega)
        have e2 : (0 : Int) ≤ (k : Int) := by omega
        have e3 : (k : Int) < (k : Int) + 4 := by omega
        have hD : (xs.drop k)[0]? = some u := by rw [List.getElem?_drop]; exact hx
        have hS4 : (sum4 s)[0]? = some (lo8 s) := rfl
        by_cases hq : u = lo8 s
        · have hb1 := ne_lo8_f u s (s : Int) (by omega) hq
          have HN := Lib.hid (pre_snoc HP.out hD (by rw [hS4, hq]))
          clear hq hD hS4
          go_wp2
          go_quiet (fail)
          go_wp2
          go_roundw
          case rel => exact ⟨1, q + nq, by omega, rfl, rfl, HN.out⟩
          case measure => simp [intOf]
        · have hb1 := ne_lo8_t u s (s : Int) (by omega) hq
          have HN := Lib.hid (pre_ne hD hS4 hq)
          go_wp2
          go_quiet (fail)
          go_wp2_with (go_at_call 62; refine (He.out _).mono ?_; rintro e w' ⟨rfl, hF, rfl⟩)
          go_ret2
          exact .inr ⟨by rw [HS.out]; exact HN.out, _, rfl, hF, ((Fr.refl _ _).drewN _).alloc _⟩
      · skip
        have e1 : IntKind.i64.wrap ((k : Int) + 1) = ((k : Int) + 1) := IntWalk.i64_in _ (by omega)
        have e2 : (0 : Int) ≤ ((k : Int) + 1) := by omega
        have e3 : ((k : Int) + 1).toNat = k + 1 := by omega
        have hD : (xs.drop k)[1]? = some u := by rw [List.getElem?_drop]; exact hx
        have hS4 : (sum4 s)[1]? = some (lo8 (s / 256)) := rfl
        by_cases hq : u = lo8 (s / 256)
        · have hb1 := ne_lo8_f u (s / 256) ((s : Int) / 256) (by omega) hq
          have HN := Lib.hid (pre_snoc HP.out hD (by rw [hS4, hq]))
          clear hq hD hS4
          go_wp2
          go_quiet (fail)
          go_wp2
          go_roundw
          case rel => exact ⟨2, q + nq, by omega, rfl, rfl, HN.out⟩
          case measure => simp [intOf]
        · have hb1 := ne_lo8_t u (s / 256) ((s : Int) / 256) (by omega) hq
          have HN := Lib.hid (pre_ne hD hS4 hq)
          go_wp2
          go_quiet (fail)
          go_wp2_with (go_at_call 62; refine (He.out _).mono ?_; rintro e w' ⟨rfl, hF, rfl⟩)
          go_ret2
          exact .inr ⟨by rw [HS.out]; exact HN.out, _, rfl, hF, ((Fr.refl _ _).drewN _).alloc _⟩
      · skip
        have e1 : IntKind.i64.wrap ((k : Int) + 2) = ((k : Int) + 2) := IntWalk.i64_in _ (by omega)
        have e2 : (0 : Int) ≤ ((k : Int) + 2) := by omega
        have e3 : ((k : Int) + 2).toNat = k + 2 := by omega
        have hD : (xs.drop k)[2]? = some u := by rw [List.getElem?_drop]; exact hx
        have hS4 : (sum4 s)[2]? = some (lo8 (s / 65536)) := rfl
        by_cases hq : u = lo8 (s / 65536)
        · have hb1 := ne_lo8_f u (s / 65536) ((s : Int) / 65536) (by omega) hq
          have HN := Lib.hid (pre_snoc HP.out hD (by rw [hS4, hq]))
          clear hq hD hS4
          go_wp2
          go_quiet (fail)
          go_wp2
          go_roundw
          case rel => exact ⟨3, q + nq, by omega, rfl, rfl, HN.out⟩
          case measure => simp [intOf]
        · have hb1 := ne_lo8_t u (s / 65536) ((s : Int) / 65536) (by omega) hq
          have HN := Lib.hid (pre_ne hD hS4 hq)
          go_wp2
          go_quiet (fail)
          go_wp2_with (go_at_call 62; refine (He.out _).mono ?_; rintro e w' ⟨rfl, hF, rfl⟩)
          go_ret2
          exact .inr ⟨by rw [HS.out]; exact HN.out, _, rfl, hF, ((Fr.refl _ _).drewN _).alloc _⟩
      · skip
        have e1 : IntKind.i64.wrap ((k : Int) + 3) = ((k : Int) + 3) := IntWalk.i64_in _ (by omega)
        have e2 : (0 : Int) ≤ ((k : Int) + 3) := by omega
        have e3 : ((k : Int) + 3).toNat = k + 3 := by omega
        have hD : (xs.drop k)[3]? = some u := by rw [List.getElem?_drop]; exact hx
        have hS4 : (sum4 s)[3]? = some (lo8 (s / 16777216)) := rfl
        by_cases hq : u = lo8 (s / 16777216)
        · have hb1 := ne_lo8_f u (s / 16777216) ((s : Int) / 16777216) (by omega) hq
          have HN := Lib.hid (pre_snoc HP.out hD (by rw [hS4, hq]))
          clear hq hD hS4
          go_wp2
          go_quiet (fail)
          go_wp2
          go_roundw
          case rel => exact ⟨4, q + nq, by omega, rfl, rfl, HN.out⟩
          case measure => simp [intOf]
        · have hb1 := ne_lo8_t u (s / 16777216) ((s : Int) / 16777216) (by omega) hq
          have HN := Lib.hid (pre_ne hD hS4 hq)
          go_wp2
          go_quiet (fail)
          go_wp2_with (go_at_call 62; refine (He.out _).mono ?_; rintro e w' ⟨rfl, hF, rfl⟩)
          go_ret2
          exact .inr ⟨by rw [HS.out]; exact HN.out, _, rfl, hF, ((Fr.refl _ _).drewN _).alloc _⟩
    · obtain rfl : j = 4 := by omega
      have HN : Hid (xs.drop k = sum4 s) := by
        have := HP.out
        rw [List.take_of_length_le (by simp; omega), List.take_of_length_le (by simp [sum4])] at this
        exact this
      go_wp2_with (go_at_call 135; refine (Hw.out _).mono ?_; rintro e w' ⟨v, rfl, hv, hf⟩)
      go_ret2
      exact .inl ⟨by rw [HS.out]; exact HN.out, v, rfl, hv.later (Nat.le_refl _), ((Fr.refl _ _).drewN _).trans' hf⟩
end Go.Proofs.YtodkhoclbhdihaaGreatDoor

/-
  Contracts of octet's Reader, where what is asked for is there.
-/
namespace Go.Proofs.YtodkhoclbhdihaaGreatDoor
open Go.RowKit

/-- A reader at place p of a row of N bytes. -/
def Rd (w : World) (r b off N c p : Nat) : Prop := Blk w r 231 #[.slice (some ⟨b, off, none⟩) N c, .int .i64 (p : Int), .nilIface]

theorem newReader_any (A : Option Addr) (n c : Nat) (xs : List UInt8) (w : World) (ha : RB w A n xs) (hn : n ≤ 10000) :
    Calls Tryz.prog 100 #[.slice A n c] w fun e w' => ∃ r b, e = .returned (.pointer (some ⟨r, 0, none⟩)) ∧ w.heap.size ≤ r ∧ w.heap.size ≤ b ∧ r ≠ b ∧ Rd w' r b 0 n n 0 ∧ Blk w' b 5 (xs.map bv).toArray ∧ Fr None' w w' := by
  have hl := ha.len1
  have Hw := Lib.hid (with_any A none n 0 c 0 xs [] w ha Reads.nil (by omega))
  rw [List.append_nil] at Hw
  rw [List.length_map] at hl
  have HL := Lib.hid hl
  clear hl
  go_enter Tryz.func100, Tryz.ntmps100
  go_wp2_with fail
  refine Hw.out.mono ?_
  rintro e w1 ⟨v, rfl, ⟨g, hg, rfl, hb⟩, hf⟩
  rw [HL.out]
  have HB := Lib.hid hb
  have HF := Lib.hid hf
  have HG := Lib.hid hg
  clear hb hf hg
  go_wp2
  go_ret
  exact ⟨_, g, rfl, HF.out.size, HG.out, by have := HB.out.lt; omega, Blk.new _ _ _, HB.out.alloc _, HF.out.alloc _⟩

theorem rdAt_any (r b off N c p : Nat) (w : World) (hr : Rd w r b off N c p) : Calls Tryz.prog 103 #[.pointer (some ⟨r, 0, none⟩)] w fun e w' => e = .returned (.int .i64 (p : Int)) ∧ w = w' := by
  have c1 := Blk.cell hr 1
  go_enter Tryz.func103, Tryz.ntmps103
  go_wp2
  go_ret
  exact ⟨rfl, rfl⟩

theorem next_ok (r b off N c p m : Nat) (w : World) (hr : Rd w r b off N c p) (hm : 0 < m) (hp : p + m ≤ N) (hc : N ≤ c) (hN : N ≤ 10000) :
    Calls Tryz.prog 164 #[.pointer (some ⟨r, 0, none⟩), .int .i64 (m : Int)] w fun e w' => e = .returned (.slice (some ⟨b, off + p, none⟩) m (c - p)) ∧ Rd w' r b off N c (p + m) ∧ Fr (Only r) w w' := by
  have c0 : w.cell? ⟨r, 0, none⟩ = some (.slice (some ⟨b, off, none⟩) N c) := Blk.cell hr 0
  have c1 : w.cell? ⟨r, 1, none⟩ = some (.int .i64 (p : Int)) := Blk.cell hr 1
  have c2 : w.cell? ⟨r, 2, none⟩ = some .nilIface := Blk.cell hr 2
  have f1 : w.frozen? ⟨r, 1, none⟩ = false := Blk.frozen hr 1
  have h1 : decide ((m : Int) < 0) = false := by simp
  have h2 : decide (((N : Int) - (p : Int)) < (m : Int)) = false := by simp; omega
  have e1 : IntKind.i64.wrap ((N : Int) - (p : Int)) = (N : Int) - (p : Int) := IntWalk.i64_in _ (by omega)
  have e2 : IntKind.i64.wrap ((p : Int) + (m : Int)) = (p : Int) + (m : Int) := IntWalk.i64_in _ (by omega)
  have e3 : (0 : Int) ≤ (p : Int) + (m : Int) := by omega
  have e4 : ((p : Int) + (m : Int)).toNat = p + m := by omega
  have e5 : p + m ≤ c := by omega
  have e6 : p < c := by omega
  have e7 : ¬ c = p := by omega
  have HR := Lib.hid hr
  clear hr
  go_enter Tryz.func164, Tryz.ntmps164
  go_wp2
  go_quiet (fail)
  go_wp2
  go_quiet (fail)
  go_wp2
  go_ret
  refine ⟨rfl, ?_, (Fr.drewN (Fr.refl _ _) _).setCell (.inr (show r = r from rfl)) _⟩
  exact Blk.set_ (Blk.drewN HR.out _) 1 _

/-- What a reader reads: the bytes xs, from place p on. -/
structure Reading (w : World) (r b : Nat) (xs : List UInt8) (p : Nat) : Prop where
  rd : Rd w r b 0 xs.length xs.length p
  ne : r ≠ b
  blk : Blk w b 5 (xs.map bv).toArray

theorem Reading.byte {w : World} {r b : Nat} {xs : List UInt8} {p i : Nat} {u : UInt8} (h : Reading w r b xs p) (hi : xs[i]? = some u) : w.cell? ⟨b, i, none⟩ = some (.int .u8 (u.toNat : Int)) := by
  rw [h.blk.cell]
  simp [hi, bv]

theorem or0 (u : UInt8) : bits .or .u32 0 (u.toNat : Int) = (u.toNat : Int) := by
  have := u32_or_nat 0 u.toNat (by omega) (by have := u.toNat_lt; omega)
  rw [Nat.zero_or] at this
  exact this
theorem or8 (u v : UInt8) : bits .or .u32 ((u.toNat : Int) * 256) (v.toNat : Int) = (u.toNat : Int) * 256 + (v.toNat : Int) := by
  have h1 := u.toNat_lt
  have h2 := v.toNat_lt
  have := u32_or_nat (u.toNat * 256) v.toNat (by omega) (by omega)
  rw [nat_join 8 _ _ (by omega) (by omega)] at this
  rw [show ((u.toNat * 256 : Nat) : Int) = (u.toNat : Int) * 256 from by omega, show ((u.toNat * 256 + v.toNat : Nat) : Int) = (u.toNat : Int) * 256 + (v.toNat : Int) from by omega] at this
  exact this

theorem number1 (r b p : Nat) (xs : List UInt8) (u : UInt8) (w : World) (hr : Reading w r b xs p) (h0 : xs[p]? = some u) (hN : xs.length ≤ 10000) :
    Calls Tryz.prog 140 #[.pointer (some ⟨r, 0, none⟩), .int .i64 1] w fun e w' => e = .returned (.int .u32 (u.toNat : Int)) ∧ Reading w' r b xs (p + 1) ∧ Fr (Only r) w w' := by
  have hp : p < xs.length := (List.getElem?_eq_some_iff.1 h0).1
  have Hn := Lib.hid (next_ok r b 0 xs.length xs.length p 1 w hr.rd (by omega) (by omega) (Nat.le_refl _) hN)
  have o1 := or0 u
  have hu := u8_lt u
  have H := Lib.hid hr
  have H0 := Lib.hid h0
  clear hr h0
  go_enter Tryz.func140, Tryz.ntmps140
  go_wp2_with fail
  refine Hn.out.mono ?_
  rintro e w1 ⟨rfl, hr1, hf1⟩
  have R1 : Reading w1 r b xs (p + 1) := ⟨hr1, H.out.ne, H.out.blk.fr hf1 (fun h => H.out.ne h.symm)⟩
  have b0 := R1.byte H0.out
  have HR := Lib.hid R1
  have HF := Lib.hid hf1
  clear R1 hr1 hf1
  go_wp2
  refine wp_loop_rounds 2 ?_
  rw [rounds_succ]
  go_wp2
  rw [rounds_succ]
  go_wp2
  go_ret
  exact ⟨rfl, HR.out, HF.out⟩

theorem number2 (r b p : Nat) (xs : List UInt8) (u v : UInt8) (w : World) (hr : Reading w r b xs p) (h0 : xs[p]? = some u) (h1 : xs[p + 1]? = some v) (hN : xs.length ≤ 10000) :
    Calls Tryz.prog 140 #[.pointer (some ⟨r, 0, none⟩), .int .i64 2] w fun e w' => e = .returned (.int .u32 ((u.toNat : Int) * 256 + (v.toNat : Int))) ∧ Reading w' r b xs (p + 2) ∧ Fr (Only r) w w' := by
  have hp : p + 1 < xs.length := (List.getElem?_eq_some_iff.1 h1).1
  have Hn := Lib.hid (next_ok r b 0 xs.length xs.length p 2 w hr.rd (by omega) (by omega) (Nat.le_refl _) hN)
  have o1 := or0 u
  have o2 := or8 u v
  have hu := u8_lt u
  have hv := u8_lt v
  have H := Lib.hid hr
  have H0 := Lib.hid h0
  have H1 := Lib.hid h1
  clear hr h0 h1
  go_enter Tryz.func140, Tryz.ntmps140
  go_wp2_with fail
  refine Hn.out.mono ?_
  rintro e w1 ⟨rfl, hr1, hf1⟩
  have R1 : Reading w1 r b xs (p + 2) := ⟨hr1, H.out.ne, H.out.blk.fr hf1 (fun h => H.out.ne h.symm)⟩
  have b0 := R1.byte H0.out
  have b1 := R1.byte H1.out
  have HR := Lib.hid R1
  have HF := Lib.hid hf1
  clear R1 hr1 hf1
  go_wp2
  refine wp_loop_rounds 3 ?_
  rw [rounds_succ]
  go_wp2
  rw [rounds_succ]
  go_wp2
  rw [rounds_succ]
  go_wp2
  go_ret
  exact ⟨rfl, HR.out, HF.out⟩

theorem u8_any (r b p : Nat) (xs : List UInt8) (u : UInt8) (w : World) (hr : Reading w r b xs p) (h0 : xs[p]? = some u) (hN : xs.length ≤ 10000) :
    Calls Tryz.prog 101 #[.pointer (some ⟨r, 0, none⟩)] w fun e w' => e = .returned (.int .i64 (u.toNat : Int)) ∧ Reading w' r b xs (p + 1) ∧ Fr (Only r) w w' := by
  have H := Lib.hid (number1 r b p xs u w hr h0 hN)
  have hu := u8_lt u
  clear hr h0
  go_enter Tryz.func101, Tryz.ntmps101
  go_wp2_with (go_at_call 140; refine H.out.mono ?_; rintro e w1 ⟨rfl, hr1, hf1⟩)
  go_ret
  exact ⟨rfl, hr1, hf1⟩

theorem u16_any (r b p : Nat) (xs : List UInt8) (u v : UInt8) (w : World) (hr : Reading w r b xs p) (h0 : xs[p]? = some u) (h1 : xs[p + 1]? = some v) (hN : xs.length ≤ 10000) :
    Calls Tryz.prog 102 #[.pointer (some ⟨r, 0, none⟩)] w fun e w' => e = .returned (.int .i64 ((u.toNat : Int) * 256 + (v.toNat : Int))) ∧ Reading w' r b xs (p + 2) ∧ Fr (Only r) w w' := by
  have H := Lib.hid (number2 r b p xs u v w hr h0 h1 hN)
  have hu := u8_lt u
  have hv := u8_lt v
  clear hr h0 h1
  go_enter Tryz.func102, Tryz.ntmps102
  go_wp2_with (go_at_call 140; refine H.out.mono ?_; rintro e w1 ⟨rfl, hr1, hf1⟩)
  go_ret
  exact ⟨rfl, hr1, hf1⟩
end Go.Proofs.YtodkhoclbhdihaaGreatDoor

/-
  Contracts of package wire: bounds, may, named, long, flat, lay.
-/
namespace Go.Proofs.YtodkhoclbhdihaaGreatDoor
open Go.RowKit

def vcells (v : V) : Array Value := #[.int .i64 (v 0), .int .i64 (v 1), .int .i64 (v 2), .int .i64 (v 3), .int .i64 (v 4), .int .i64 (v 5), .int .i64 (v 6), .int .i64 (v 7), .int .i64 (v 8), .int .i64 (v 9), .int .i64 (v 10), .int .i64 (v 11), .int .i64 (v 12), .int .i64 (v 13)]
/-- A variable of type values. -/
def Vals (w : World) (g : Nat) (v : V) : Prop := Blk w g 139 (vcells v)
theorem Vals.at_ {w : World} {g : Nat} {v : V} (h : Vals w g v) (f : Nat) (hf : f < 14) : w.cell? ⟨g, f, none⟩ = some (.int .i64 (v f)) := by
  have := Blk.cell h f
  rw [this]
  match f, hf with
  | 0, _ | 1, _ | 2, _ | 3, _ | 4, _ | 5, _ | 6, _ | 7, _ | 8, _ | 9, _ | 10, _ | 11, _ | 12, _ | 13, _ => rfl
theorem Vals.fr {w w' : World} {S : Nat → Prop} {g : Nat} {v : V} (h : Vals w g v) (hb : Fr S w w') (hs : ¬ S g) : Vals w' g v := Blk.fr h hb hs
theorem vcells_set (v : V) (f : Nat) (hf : f < 14) (x : Int) : (vcells v).setIfInBounds f (.int .i64 x) = vcells (setV v f x) := by
  match f, hf with
  | 0, _ | 1, _ | 2, _ | 3, _ | 4, _ | 5, _ | 6, _ | 7, _ | 8, _ | 9, _ | 10, _ | 11, _ | 12, _ | 13, _ => simp [vcells, setV]
theorem Vals.set_ {w : World} {g : Nat} {v : V} (h : Vals w g v) (f : Nat) (hf : f < 14) (x : Int) : Vals (w.setCell ⟨g, f, none⟩ (.int .i64 x)) g (setV v f x) := by
  unfold Vals
  rw [← vcells_set v f hf x]
  exact Blk.set_ h f _

theorem retB {a b : Bool} (h : a = b) : Ending.returned (.bool a) = .returned (.bool b) := by rw [h]
theorem retI {k : IntKind} {a b : Int} (h : a = b) : Ending.returned (.int k a) = .returned (.int k b) := by rw [h]
theorem ret2i {a b c d : Int} (h : a = b) (k : c = d) : Ending.returned (.tuple #[.int .i64 a, .int .i64 c]) = .returned (.tuple #[.int .i64 b, .int .i64 d]) := by rw [h, k]

set_option maxHeartbeats 1000000 in
theorem bounds_any (g f : Nat) (v : V) (mk : Int) (w : World) (hv : Vals w g v) (hf : f < 14) :
    Calls Tryz.prog 133 #[.int .i64 (f : Int), .pointer (some ⟨g, 0, none⟩), .int .i64 mk] w fun e w' => e = .returned (.tuple #[.int .i64 (loF f v mk), .int .i64 (hiF f v mk)]) ∧ w = w' := by
  have c9 := hv.at_ 9 (by omega)
  generalize hk : v 9 = k at c9
  have HK := Lib.hid hk
  clear hk hv
  obtain rfl | rfl | rfl | rfl | rfl | rfl | rfl | rfl | rfl | rfl | rfl | rfl | rfl | rfl : f = 0 ∨ f = 1 ∨ f = 2 ∨ f = 3 ∨ f = 4 ∨ f = 5 ∨ f = 6 ∨ f = 7 ∨ f = 8 ∨ f = 9 ∨ f = 10 ∨ f = 11 ∨ f = 12 ∨ f = 13 := by omega
  all_goals
    go_enter Tryz.func133, Tryz.ntmps133
    go_wp2
    all_goals
      go_ret2
      refine ⟨ret2i ?_ ?_, rfl⟩ <;> (simp [loF, hiF, HK.out]) <;> simp_all

/-! ### may -/
set_option maxHeartbeats 1000000 in
theorem may_any (g f : Nat) (v : V) (mk : Int) (w : World) (hv : Vals w g v) (hf : f < 14) :
    Calls Tryz.prog 94 #[.int .i64 (f : Int), .pointer (some ⟨g, 0, none⟩), .int .i64 mk] w fun e w' => e = .returned (.bool (mayB f v mk)) ∧ w = w' := by
  have Hb := Lib.hid (bounds_any g f v mk w hv hf)
  have cf := hv.at_ f hf
  have hf1 : (f : Int) < 14 := by omega
  clear hv
  generalize hl : loF f v mk = lo at Hb
  generalize hh : hiF f v mk = hi at Hb
  have HM : Hid (mayB f v mk = (decide (lo ≤ v f) && decide (v f ≤ hi))) := by unfold mayB; rw [hl, hh]; rfl
  clear hl hh
  generalize v f = x at cf HM
  by_cases h1 : lo ≤ x
  · have d1 : decide (lo ≤ x) = true := by simpa using h1
    go_enter Tryz.func94, Tryz.ntmps94
    go_wp2_with (go_at_call 133; refine Hb.out.mono ?_; rintro e w' ⟨rfl, rfl⟩)
    go_ret
    exact ⟨by rw [HM.out, d1]; simp, rfl⟩
  · have d1 : decide (lo ≤ x) = false := by simpa using h1
    go_enter Tryz.func94, Tryz.ntmps94
    go_wp2_with (go_at_call 133; refine Hb.out.mono ?_; rintro e w' ⟨rfl, rfl⟩)
    go_ret
    exact ⟨by rw [HM.out, d1]; simp, rfl⟩

/-! ### lists of field numbers -/
def nv (f : Nat) : Value := .int .i64 (f : Int)
abbrev RN (w : World) (A : Option Addr) (n : Nat) (l : List Nat) : Prop := Reads w 1 A n (l.map nv)
theorem RN.at_ {w : World} {A : Option Addr} {n k : Nat} {l : List Nat} (h : RN w A n l) (hk : k < n) : ∃ b off f, A = some ⟨b, off, none⟩ ∧ b < w.heap.size ∧ l[k]? = some f ∧ w.cell? ⟨b, off + k, none⟩ = some (.int .i64 (f : Int)) := by
  obtain ⟨b, off, u, hA, hb, hx, hc⟩ := h.at1 hk
  rw [List.getElem?_map, Option.map_eq_some_iff] at hx
  obtain ⟨u', hu, rfl⟩ := hx
  exact ⟨b, off, u', hA, hb, hu, hc⟩
theorem RN.len {w : World} {A : Option Addr} {n : Nat} {l : List Nat} (h : RN w A n l) : l.length = n := by
  have := h.len1
  rwa [List.length_map] at this

theorem named_any (A : Option Addr) (n c : Nat) (sh : List Nat) (f : Nat) (w : World) (ha : RN w A n sh) (hn : n ≤ 1000) :
    Calls Tryz.prog 93 #[.slice A n c, .int .i64 (f : Int)] w fun e w' => e = .returned (.bool (namedB sh f)) ∧ w = w' := by
  have HL := Lib.hid ha.len
  go_enter Tryz.func93, Tryz.ntmps93
  go_wp2
  go_loop [9] (fun i => ∃ k : Nat, k ≤ n ∧ i = .int .i64 k ∧ (sh.take k).contains f = false) (fun i => n - (intOf i).toNat)
  case atStart => exact ⟨0, Nat.zero_le _, rfl, rfl⟩
  case round =>
    obtain ⟨k, hk, rfl, hpre⟩ := hrel
    have HP := Lib.hid hpre
    clear hpre
    by_cases hlt : k < n
    · obtain ⟨b, off, g, rfl, hb, hx, hc⟩ := ha.at_ hlt
      have HX := Lib.hid hx
      clear hx
      by_cases hq : g = f
      · subst hq
        have HN : Hid (namedB sh g = true) := by
          show namedB sh g = true
          unfold namedB
          simpa using List.mem_of_getElem? HX.out
        go_wp2
        go_ret
        exact ⟨retB HN.out.symm, rfl⟩
      · have hb1 : ((g : Int) == (f : Int)) = false := by simp; omega
        have HN : Hid ((sh.take (k + 1)).contains f = false) := by
          show (sh.take (k + 1)).contains f = false
          have := HP.out
          rw [List.take_add_one, HX.out]
          simp at this ⊢
          exact ⟨this, fun e => hq e.symm⟩
        clear hq
        go_wp2
        go_round
        case rel => exact ⟨k + 1, by omega, by go_num, HN.out⟩
        case measure => simp [intOf]; omega
    · have HN : Hid (namedB sh f = false) := by
        have := HP.out
        rw [List.take_of_length_le (by have := HL.out; omega)] at this
        exact this
      go_wp2
      go_ret
      exact ⟨retB HN.out.symm, rfl⟩

/-- The widths of the fields lie in their variable. -/
def SizeG (w : World) : Prop := ∀ f, f < 14 → w.cell? ⟨1, f, none⟩ = some (.int .i64 (sz f : Int))
theorem SizeG.fr {w w' : World} {S : Nat → Prop} (h : SizeG w) (hf : Fr S w w') (hs : ¬ S 1) : SizeG w' := fun f hl =>
  (hf.cell (p := ⟨1, f, none⟩) (lt_of_cell (h f hl)) hs).trans (h f hl)
theorem sz_le (f : Nat) : sz f ≤ 2 := by
  unfold sz
  match f with
  | 0 | 1 | 2 | 3 | 4 | 5 | 6 | 7 | 8 | 9 | 10 | 11 | 12 | 13 => decide
  | n + 14 => simp [List.getD]
theorem lenF_take {sh : List Nat} {k f : Nat} (h : sh[k]? = some f) : lenF (sh.take (k + 1)) = lenF (sh.take k) + sz f := by
  unfold lenF
  rw [List.take_add_one, h]
  simp

theorem long_any (A : Option Addr) (n c : Nat) (sh : List Nat) (w : World) (hG : SizeG w) (ha : RN w A n sh) (hs : ∀ f ∈ sh, f < 14) (hn : n ≤ 1000) :
    Calls Tryz.prog 71 #[.slice A n c] w fun e w' => e = .returned (.int .i64 (1 + (lenF sh : Int))) ∧ w = w' := by
  have HL := Lib.hid ha.len
  go_enter Tryz.func71, Tryz.ntmps71
  go_wp2
  go_loop [3, 8] (fun s i => ∃ k : Nat, k ≤ n ∧ i = .int .i64 k ∧ ∃ m : Nat, s = .int .i64 (m : Int) ∧ m ≤ 1 + 2 * k ∧ m = 1 + lenF (sh.take k)) (fun _ i => n - (intOf i).toNat)
  case atStart => exact ⟨0, Nat.zero_le _, rfl, 1, rfl, by omega, rfl⟩
  case round =>
    obtain ⟨k, hk, rfl, m, rfl, hm, hm2⟩ := hrel
    have HM := Lib.hid hm2
    clear hm2
    by_cases hlt : k < n
    · obtain ⟨b, off, f, rfl, hb, hx, hc⟩ := ha.at_ hlt
      have hf : f < 14 := hs f (List.mem_of_getElem? hx)
      have hcs := hG f hf
      have hsz := sz_le f
      have HX := Lib.hid hx
      have hf2 : (f : Int) < 14 := by omega
      clear hx
      have HN := Lib.hid (lenF_take HX.out)
      go_wp2
      go_round
      case rel => exact ⟨k + 1, by omega, by go_num, m + sz f, by go_num, by omega, by rw [HN.out, HM.out]; omega⟩
      case measure => simp [intOf]; omega
    · have HN : Hid ((m : Int) = 1 + (lenF sh : Int)) := by
        show (m : Int) = 1 + (lenF sh : Int)
        have := HM.out
        rw [List.take_of_length_le (by have := HL.out; omega)] at this
        omega
      go_wp2
      go_ret
      exact ⟨retI HN.out, rfl⟩

/-! ### a message flat -/
def opCells (o : GOp) : List Value := [.int .i64 o.kind, .int .i64 o.pos, .int .u8 (o.ch.toNat : Int), .int .i64 o.client, .int .i64 o.seq]
def msgCells (m : GMsg) : List Value := [.int .i64 m.kind, .int .i64 m.epoch, .int .i64 m.client, .int .i64 m.have_, .int .i64 m.first, .int .i64 m.num, .int .i64 m.ack, .int .i64 m.rev, .int .i64 m.tag] ++ opCells m.op
def msgV (m : GMsg) : Value := .agg (msgCells m).toArray

theorem flat_any (m : GMsg) (w : World) : Calls Tryz.prog 92 #[msgV m] w fun e w' => e = .returned (.agg (vcells (flat m))) ∧ Fr None' w w' := by
  have hu := u8_lt m.op.ch
  unfold msgV msgCells opCells
  go_enter Tryz.func92, Tryz.ntmps92
  go_wp2
  exact bodyPost_ret (v := .agg (vcells (flat m))) (by simp [results, Tryz.results92, go_sem, vcells, flat, flatL]) rfl ⟨rfl, ((Fr.refl _ _).alloc _).alloc _⟩

end Go.Proofs.YtodkhoclbhdihaaGreatDoor

/-
  A region that draws its order: all but the last operations only read, the last ones do what they like: one walk in the text's order serves every order. (Out of the library's two laws, for the quiet walk and for a forced tail.) No program in it.
-/
namespace Go.Proofs.YtodkhoclbhdihaaGreatDoor

theorem still_of_quiet {P : Program} {ops : Array Oper} {w0 : World} {Q : Act → Prop} : ∀ (l : List Oper) (a : Act), wpQuiet P ops (fun w' => w' = w0) Q l a → wpStill P ops w0 Q l a := by
  intro l
  induction l with
  | nil => intro a h; exact h
  | cons o rest ih =>
    intro a h
    unfold wpQuiet at h
    unfold wpStill
    split
    · rename_i hw
      rw [if_pos hw] at h
      obtain ⟨v, hv, hn⟩ := h
      have hq := hv w0 rfl
      unfold Oper.quietAt at hq
      unfold Oper.still
      generalize (execOp a.eval o).run P w0 = r at hq
      have hn' := ih _ hn
      match r, hq with
      | .ok (.value u) w', ⟨h1, h2⟩ => subst h2; exact ⟨h1, hn'⟩
      | .ok .skip w', ⟨h1, h2⟩ => subst h2; exact ⟨h1, hn'⟩
      | .ok (.enter f args) w', ⟨h1, h2⟩ => exact ⟨h1, v, h2, hn'⟩
    · rename_i hw
      rw [if_neg hw] at h
      exact ih _ h

theorem wp_region_tail {P : Program} {id : Nat} {Q : Exit → Act → World → Prop} {a : Act} {w : World} {l : List Oper} (n : Nat) (hm : P.follows .mixedOrders = true) (hB : Region.lexTailB .any l.toArray n = true)
    (h : wpQuiet P l.toArray (fun w' => w' = w.drew) (fun a' => wpList P l.toArray Q (l.drop n) a' w.drew) (l.take n) a) : (Code.region id l.toArray true).wp P Q a w :=
  wp_region_still_tail n hm hB (still_of_quiet _ _ h)
end Go.Proofs.YtodkhoclbhdihaaGreatDoor

/-
  Contract of wire's lay: a message's bytes.
-/
namespace Go.Proofs.YtodkhoclbhdihaaGreatDoor
open Go.RowKit

/-! ### bytes of a message -/
theorem layB_take {v : V} {sh : List Nat} {k f : Nat} (h : sh[k]? = some f) : layB v (sh.take (k + 1)) = layB v (sh.take k) ++ fieldB v f := by
  unfold layB
  rw [List.take_add_one, h]
  simp
theorem Foot.blk {g n k : Nat} (h : Foot (some ⟨g, 0, none⟩) n k) : k = g := by
  obtain ⟨_, a, ha, rfl⟩ := h
  cases ha
  rfl
theorem NewB.rb {w w' : World} {v : Value} {l : List UInt8} (h : NewB w w' v l) : ∃ g, w.heap.size ≤ g ∧ v = .slice (some ⟨g, 0, none⟩) l.length l.length ∧ RB w' (some ⟨g, 0, none⟩) l.length l := by
  obtain ⟨g, hg, hv, hb⟩ := h
  exact ⟨g, hg, hv, hb.reads0 (by simp)⟩

abbrev PT : TypeId := 227
theorem sz_12 (f : Nat) (h : f < 14) : sz f = 1 ∨ sz f = 2 := by
  unfold sz
  match f, h with
  | 0, _ | 1, _ | 2, _ | 3, _ | 4, _ | 5, _ | 6, _ | 7, _ | 8, _ | 9, _ | 10, _ | 11, _ | 12, _ | 13, _ => decide
def puts : Array Value := #[.nilFunc, .func (.func 136) #[] #[], .func (.func 137) #[] #[]]

theorem u64_nat (x : Int) (h : 0 ≤ x) : x = ((x.toNat : Nat) : Int) := by omega

set_option maxHeartbeats 2000000 in
theorem lay_any (g : Nat) (v : V) (A : Option Addr) (n c : Nat) (sh : List Nat) (w : World) (hG : SizeG w) (hv : Vals w g v) (ha : RN w A n sh) (hs : ∀ f ∈ sh, f < 14) (hp : ∀ f ∈ sh, 0 ≤ v f ∧ v f ≤ 65535) (h0 : 0 ≤ v 0) (h1 : v 0 ≤ 255) (hn : n ≤ 100) :
    Calls Tryz.prog 96 #[.pointer (some ⟨g, 0, none⟩), .slice A n c] w fun e w' => ∃ r, e = .returned r ∧ NewB w w' r (layB v sh) ∧ Fr None' w w' := by
  have HL := Lib.hid ha.len
  have c0 := hv.at_ 0 (by omega)
  have hlt : g < w.heap.size := Blk.lt hv
  have hf0 : Fr None' w (w.alloc (.cells puts PT)) := (Fr.refl _ _).alloc _
  obtain ⟨z, hz⟩ : ∃ z : Nat, v 0 = z := ⟨(v 0).toNat, by omega⟩
  have Hp := Lib.hid (put8_any none 0 0 z [] (w.alloc (.cells puts PT)) Reads.nil (by omega))
  have hbp : Blk (w.alloc (.cells puts PT)) w.heap.size PT puts := Blk.new _ _ _
  have HBP := Lib.hid hbp
  have HZ : Hid (layB v (sh.take 0) = [] ++ [lo8 z]) := by
    show layB v (sh.take 0) = [] ++ [lo8 z]
    simp [layB, hz]
  rw [hz] at c0 h0 h1
  clear hz hbp
  unfold puts at *
  go_enter Tryz.func96, Tryz.ntmps96
  go_wp2_with fail
  refine Hp.out.mono ?_
  rintro e w1 ⟨r0, rfl, hnb, hf1⟩
  obtain ⟨gb, hgb, rfl, hb1⟩ := hnb
  have HB1 := Lib.hid hb1
  have HF1 := Lib.hid (hf0.trans' hf1)
  have HP1 := Lib.hid (HBP.out.fr hf1 (fun h => h))
  have hgb' : w.heap.size ≤ gb := Nat.le_trans hf0.size hgb
  clear hf1 hb1 hf0 c0 hgb Hp
  go_wp2
  go_loopw [6, 18] (fun r i wr => ∃ k gb : Nat, k ≤ n ∧ i = .int .i64 k ∧ r = .slice (some ⟨gb, 0, none⟩) (layB v (sh.take k)).length (layB v (sh.take k)).length ∧ (layB v (sh.take k)).length ≤ 1 + 2 * k ∧ w.heap.size ≤ gb ∧ Blk wr gb 5 ((layB v (sh.take k)).map bv).toArray ∧ Blk wr w.heap.size PT #[.nilFunc, .func (.func 136) #[] #[], .func (.func 137) #[] #[]] ∧ Fr None' w wr) (fun _ i _ => n - (intOf i).toNat)
  case atStart => exact ⟨0, gb, Nat.zero_le _, rfl, by rw [HZ.out]; rfl, by rw [HZ.out]; simp, hgb', by rw [HZ.out]; exact HB1.out, HP1.out, HF1.out⟩
  case round =>
    clear HZ HB1 HF1 HP1 HBP hgb'
    obtain ⟨k, gb, hk, rfl, rfl, hlen, hgb, hb, hbp, hf⟩ := hrel
    by_cases hlt : k < n
    · obtain ⟨b, off, f, rfl, hbb, hx, hc⟩ := RN.at_ (ha.frn hf) hlt
      have hfm : f ∈ sh := List.mem_of_getElem? hx
      have hfl : f < 14 := hs f hfm
      have hcs := hG.fr hf (fun h => h) f hfl
      have hcv := (hv.fr hf fun h => h).at_ f hfl
      have hp1 := (hp f hfm).1
      have hp2 := (hp f hfm).2
      have HX := Lib.hid (layB_take (v := v) hx)
      have hx1 : (f : Int) < 14 := by omega
      obtain ⟨x, hxv⟩ : ∃ x : Nat, v f = x := ⟨(v f).toNat, by omega⟩
      have HV : Hid (fieldB v f = if sz f = 2 then [lo8 (x / 256), lo8 x] else [lo8 x]) := by
        show fieldB v f = _
        unfold fieldB
        rw [hxv, Int.toNat_natCast]
      rw [hxv] at hcv hp1 hp2
      clear hx hfm hxv
      have hrb := hb.reads0 (size := 1) (n := (layB v (sh.take k)).length) (by simp)
      have hrb' : RB wr (some ⟨gb, 0, none⟩) (layB v (sh.take k)).length (layB v (sh.take k)) := by simpa using hrb
      clear hrb
      generalize layB v (sh.take k) = l at *
      have HF := Lib.hid hf
      have HBP := Lib.hid hbp
      have p1 := hbp.cell 1
      have p2 := hbp.cell 2
      clear hb hbp hf
      obtain hsz | hsz := sz_12 f hfl
      · have Hc := Lib.hid (put8_any (some ⟨gb, 0, none⟩) l.length l.length x l wr.drew (hrb'.frn (Fr.refl _ _).drew) (by omega))
        rw [hsz] at hcs HV
        have HW := HV.out
        simp only [show ¬ (1 : Nat) = 2 from by omega, if_false] at HW
        have HN : Hid (layB v (sh.take (k + 1)) = l ++ [lo8 x]) := by
          rw [← HW]
          exact HX.out
        clear hsz hrb' HW
        go_wp2
        refine wp_region_tail 12 (by kernel_rfl) (by kernel_rfl) ?_
        simp only [List.take_succ_cons, List.take_zero, List.drop_succ_cons, List.drop_zero]
        repeat (go_big_quiet_step (fail))
        refine wpQuiet_nil ?_
        go_wp2_with fail
        refine Hc.out.mono ?_
        rintro e w2 ⟨r2, rfl, hnb, hf2⟩
        obtain ⟨gb2, hgb2, rfl, hb2⟩ := hnb
        have HF2 := Lib.hid ((HF.out.drew).trans' hf2)
        have HBP2 := Lib.hid (HBP.out.fr (w' := w2) ((Fr.refl None' wr).drew.trans' hf2) (fun h => h))
        have hgb3 : w.heap.size ≤ gb2 := Nat.le_trans HF.out.size hgb2
        have HB2 := Lib.hid hb2
        clear hf2 hb2 hgb2
        rw [← HN.out] at HB2 ⊢
        have hlen2 : (layB v (sh.take (k + 1))).length ≤ 1 + 2 * (k + 1) := by
          rw [HN.out]
          simp
          omega
        go_wp2
        go_roundw
        case rel => exact ⟨k + 1, gb2, by omega, by go_num, rfl, hlen2, hgb3, HB2.out, HBP2.out, HF2.out⟩
        case measure => simp [intOf]; omega
      · have Hc := Lib.hid (put16_any (some ⟨gb, 0, none⟩) l.length l.length x l wr.drew (hrb'.frn (Fr.refl _ _).drew) (by omega))
        rw [hsz] at hcs HV
        have HW := HV.out
        simp only [if_true] at HW
        have HN : Hid (layB v (sh.take (k + 1)) = l ++ [lo8 (x / 256), lo8 x]) := by
          rw [← HW]
          exact HX.out
        clear hsz hrb' HW
        go_wp2
        refine wp_region_tail 12 (by kernel_rfl) (by kernel_rfl) ?_
        simp only [List.take_succ_cons, List.take_zero, List.drop_succ_cons, List.drop_zero]
        repeat (go_big_quiet_step (fail))
        refine wpQuiet_nil ?_
        go_wp2_with fail
        refine Hc.out.mono ?_
        rintro e w2 ⟨r2, rfl, hnb, hf2⟩
        obtain ⟨gb2, hgb2, rfl, hb2⟩ := hnb
        have HF2 := Lib.hid ((HF.out.drew).trans' hf2)
        have HBP2 := Lib.hid (HBP.out.fr (w' := w2) ((Fr.refl None' wr).drew.trans' hf2) (fun h => h))
        have hgb3 : w.heap.size ≤ gb2 := Nat.le_trans HF.out.size hgb2
        have HB2 := Lib.hid hb2
        clear hf2 hb2 hgb2
        rw [← HN.out] at HB2 ⊢
        have hlen2 : (layB v (sh.take (k + 1))).length ≤ 1 + 2 * (k + 1) := by
          rw [HN.out]
          simp
          omega
        go_wp2
        go_roundw
        case rel => exact ⟨k + 1, gb2, by omega, by go_num, rfl, hlen2, hgb3, HB2.out, HBP2.out, HF2.out⟩
        case measure => simp [intOf]; omega
    · have HN : Hid (sh.take k = sh) := List.take_of_length_le (by have := HL.out; omega)
      rw [HN.out] at hb hlen ⊢
      have HB := Lib.hid hb
      have HF := Lib.hid hf
      clear hb hf hbp
      go_wp2
      go_ret
      exact ⟨_, rfl, ⟨gb, hgb, rfl, HB.out⟩, HF.out⟩
end Go.Proofs.YtodkhoclbhdihaaGreatDoor
