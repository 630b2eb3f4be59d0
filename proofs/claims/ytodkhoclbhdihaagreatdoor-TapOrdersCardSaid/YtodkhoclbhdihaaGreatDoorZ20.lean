/-
  Contract of shuffled: a new list that holds each number below n.
-/
import Derived.Test.YtodkhoclbhdihaaGreatDoorZ3
import Derived.Test.YtodkhoclbhdihaaGreatDoorZ6
import Derived.Test.YtodkhoclbhdihaaGreatDoorZ7
import Derived.Deep.Cut
namespace Go.Proofs.YtodkhoclbhdihaaGreatDoor
open Go.RowKit

abbrev IE : TypeId := 3
abbrev IL : TypeId := 22
theorem shi_info : (Tryz.prog.info? IE).map (fun i => (i.zero, i.size, i.bytes)) = some (some (.int .i64 0), 1, 8) := by kernel_rfl
theorem shi_size (w : World) : (sizeOf (Tryz.prog.elem IL)).run Tryz.prog w = .ok 1 w := by kernel_rfl
theorem shi_el : Tryz.prog.underlying IL = some (.slice (Tryz.prog.elem IL)) := by kernel_rfl
theorem shi_one (l : List Int) : ∀ u ∈ l.map vi, u.oneCell' = true := by
  intro u hu
  obtain ⟨x, _, rfl⟩ := List.mem_map.1 hu
  rfl
theorem shi_at {w : World} {A : Option Addr} {n k : Nat} {l : List Int} (h : RI w A n l) (hk : k < n) : ∃ b off x, A = some ⟨b, off, none⟩ ∧ b < w.heap.size ∧ l[k]? = some x ∧ w.cell? ⟨b, off + k, none⟩ = some (.int .i64 x) := by
  obtain ⟨b, off, rfl, hb, hc⟩ := h.2 (by omega)
  have hl : l.length = n := by have := h.1; rw [List.length_map] at this; omega
  have hg : l[k]? = some l[k] := List.getElem?_eq_getElem (by omega)
  exact ⟨b, off, l[k], rfl, hb, hg, hc k _ (by rw [List.getElem?_map, hg]; rfl)⟩
def rng (n : Nat) : List Int := (List.range n).map fun k : Nat => (k : Int)
theorem rng_len (n : Nat) : (rng n).length = n := by simp [rng]
theorem rng_succ (n : Nat) : rng (n + 1) = rng n ++ [(n : Int)] := by simp [rng, List.range_succ]
theorem rng_mem (n : Nat) (x : Int) : x ∈ rng n ↔ 0 ≤ x ∧ x < n := by
  unfold rng
  rw [List.mem_map]
  constructor
  · rintro ⟨k, hk, rfl⟩
    have := List.mem_range.1 hk
    omega
  · intro h
    exact ⟨x.toNat, List.mem_range.2 (by omega), by omega⟩
/-- What is picked and what is left. -/
structure Shf (w : World) (n : Nat) (left out : Value) (wr : World) (L O : List Int) : Prop where
  ownl : wr.ownsRow w.heap.size IE 1 left L.length (L.map vi)
  owno : wr.ownsRow w.heap.size IE 1 out O.length (O.map vi)
  apart : ∀ k, left.ownBlock = some k → out.ownBlock ≠ some k
  len : O.length + L.length = n
  mem : ∀ x, (x ∈ O ∨ x ∈ L) ↔ 0 ≤ x ∧ x < n
  fr : Fr None' w wr
theorem shuf_step {w wr : World} {n : Nat} {out : Value} {A1 : Option Addr} {c1 : Nat} {L O : List Int} (h : Shf w n (.slice A1 L.length c1) out wr L O) (hc : L.length ≤ c1) (hn : n ≤ 80) {k : Nat} {x : Int} (hk : k < L.length) (hx : L[k]? = some x) :
    ∃ v3 w3 v4 w4 v5 w5, (Builtin.append_ #[IL, IL] IL #[out, .slice (some ⟨wr.heap.size, 0, none⟩) 1 1]).run Tryz.prog (wr.alloc (.cells #[.int .i64 x] IE)) = .ok v3 w3 ∧
      (Builtin.append_ #[IL, IL] IL #[.slice none 0 0, .slice A1 k c1]).run Tryz.prog w3 = .ok v4 w4 ∧
      (Builtin.append_ #[IL, IL] IL #[v4, .slice (if c1 = k + 1 then A1 else A1.map (·.add ((k + 1) * 1))) (L.length - (k + 1)) (c1 - (k + 1))]).run Tryz.prog w4 = .ok v5 w5 ∧
      ∃ L' O', Shf w n v5 v3 w5 L' O' ∧ O'.length = O.length + 1 := by
  have hlen := h.len
  have fX : Fr None' wr (wr.alloc (.cells #[.int .i64 x] IE)) := (Fr.refl _ _).alloc _
  have hXs := (h.fr.trans' fX).size
  obtain ⟨v3, w3, r3, o3, f3, at3⟩ := app_any (P := Tryz.prog) (t := IL) (ty := IL) (e := IE) (size := 1) (bytes := 8) Tryz.underlying22 shi_info rfl (by omega) (own_fr h.owno fX fun _ _ h => h) (one_reads wr IE [.int .i64 x]) (c := 1) (by simp [Value.oneCell']) (by omega) (by omega) hXs
  have hl3 : w3.ownsRow w.heap.size IE 1 (.slice A1 L.length c1) L.length (L.map vi) := own_fr (own_fr h.ownl fX fun _ _ h => h) f3 fun i hi => h.apart i hi
  have F3 : Fr None' w w3 := (h.fr.trans' fX).trans f3 fun i hi hs => by have := (h.owno.lt i hs).1; omega
  obtain ⟨A', c', e', hc', hr', hft'⟩ := own_reads hl3
  cases e'
  obtain ⟨v4, w4, r4, o4, f4, at4⟩ := app_any (P := Tryz.prog) (t := IL) (ty := IL) (e := IE) (size := 1) (bytes := 8) (c := c1) Tryz.underlying22 shi_info rfl (by omega) (World.ownsRow_nil w3 w.heap.size IE 1) (hr'.take (k := k) (by omega)) (fun u hu => shi_one _ u (List.mem_of_mem_take hu)) (by omega) (by omega) F3.size
  have f4' : Fr None' w3 w4 := f4.weaken fun i hi => by cases hi
  have F4 := F3.trans' f4'
  obtain ⟨v5, w5, r5, o5, f5, at5⟩ := app_any (P := Tryz.prog) (t := IL) (ty := IL) (e := IE) (size := 1) (bytes := 8) (c := c1 - (k + 1)) Tryz.underlying22 shi_info rfl (by omega) o4 ((hr'.frn f4').cut (k := k + 1) (by omega) hc) (fun u hu => shi_one _ u (List.mem_of_mem_drop hu)) (by omega) (by omega) F4.size
  have h4 : ∀ i, v4.ownBlock = some i → w3.heap.size ≤ i := fun i hi => by
    rcases at4 with e | e
    · rw [e] at hi; cases hi
    · rw [e] at hi; cases hi; exact Nat.le_refl _
  have h5 : ∀ i, v5.ownBlock = some i → w3.heap.size ≤ i := fun i hi => by
    rcases at5 with e | e
    · exact h4 i (e ▸ hi)
    · rw [e] at hi; cases hi; exact f4'.size
  have h3 : ∀ i, v3.ownBlock = some i → i < w3.heap.size := fun i hi => (o3.lt i hi).2
  have hsp : L = L.take k ++ x :: L.drop (k + 1) := by
    have hd : L.drop k = x :: L.drop (k + 1) := by
      rw [List.drop_eq_getElem_cons hk]
      rw [List.getElem?_eq_getElem hk] at hx
      rw [Option.some.inj hx]
    rw [← hd, List.take_append_drop]
  refine ⟨v3, w3, v4, w4, v5, w5, r3, r4, r5, L.take k ++ L.drop (k + 1), O ++ [x], ⟨?_, ?_, fun i hi h' => ?_, ?_, fun y => ?_, ?_⟩, by simp⟩
  · have e1 : (L.take k ++ L.drop (k + 1)).length = 0 + k + (L.length - (k + 1)) := by simp; omega
    have e2 : (L.take k ++ L.drop (k + 1)).map vi = ([] ++ (L.map vi).take (k * 1)) ++ (L.map vi).drop ((k + 1) * 1) := by simp
    rw [e1, e2]
    exact o5
  · have e1 : (O ++ [x]).length = O.length + 1 := by simp
    have e2 : (O ++ [x]).map vi = O.map vi ++ [.int .i64 x] := by simp [vi]
    rw [e1, e2]
    exact own_fr (own_fr o3 f4' fun _ _ h => h) f5 fun i hi h' => by have := h3 i hi; have := h4 i h'; omega
  · have := h3 i h'; have := h5 i hi; omega
  · simp; omega
  · have hm := h.mem y
    rw [hsp] at hm
    rw [← hm]
    simp only [List.mem_append, List.mem_cons, List.not_mem_nil, or_false]
    constructor
    · rintro ((h | h) | h | h)
      · exact .inl h
      · exact .inr (.inr (.inl h))
      · exact .inr (.inl h)
      · exact .inr (.inr (.inr h))
    · rintro (h | h | h | h)
      · exact .inl (.inl h)
      · exact .inr (.inl h)
      · exact .inl (.inr h)
      · exact .inr (.inr h)
  · exact F4.trans f5 fun i hi hs => by have := h4 i hs; have := F3.size; omega
def ShPost (n : Nat) (w : World) (ev : Ending) (w' : World) : Prop := ∃ A c O, ev = .returned (.slice A n c) ∧ RI w' A n O ∧ (∀ x, x ∈ O ↔ 0 ≤ x ∧ x < n) ∧ (∀ j, Foot A n j → w.heap.size ≤ j) ∧ Fr None' w w'

set_option maxRecDepth 100000 in
set_option maxHeartbeats 8000000 in
theorem shuffled_any (n : Nat) (hn : n ≤ 80) (A : Option Addr) (m c : Nat) (ps : List Int) (w : World) (hp : RI w A m ps) (hm : m ≤ 140737488355328) :
    Calls Tryz.prog 26 #[.int .i64 (n : Int), .slice A m c] w fun ev w' => ShPost n w ev w' := by
  have Hi := Lib.hid into_gen
  have HP := Lib.hid hp
  clear hp
  go_enter Tryz.func26, Tryz.ntmps26
  go_wp2
  go_loopw [5, 7] (fun l i wr => ∃ (k : Nat) (l' : Value), l' = l ∧ k ≤ n ∧ i = .int .i64 (k : Int) ∧ Hid (wr.ownsRow w.heap.size IE 1 l k ((rng k).map vi)) ∧ Hid (Fr None' w wr)) (fun _ i _ => n - (intOf i).toNat)
  case atStart => exact ⟨0, _, rfl, Nat.zero_le _, rfl, Lib.hid (World.ownsRow_nil _ _ _ _), Lib.hid (Fr.refl _ _)⟩
  case round =>
    obtain ⟨k, l, rfl, hk, rfl, HO, HF⟩ := hrel
    by_cases hlt : k < n
    · have hd : decide ((k : Int) < (n : Int)) = true := by simp; omega
      have fX : Fr None' wr (wr.alloc (.cells #[.int .i64 (k : Int)] IE)) := (Fr.refl _ _).alloc _
      obtain ⟨v3, w3, r3, o3, f3, at3⟩ := app_any (P := Tryz.prog) (t := IL) (ty := IL) (e := IE) (size := 1) (bytes := 8) Tryz.underlying22 shi_info rfl (by omega) (own_fr HO.out fX fun _ _ h => h) (one_reads wr IE [.int .i64 (k : Int)]) (c := 1) (by simp [Value.oneCell']) (by omega) (by omega) (HF.out.trans' fX).size
      have HN : Hid (w3.ownsRow w.heap.size IE 1 v3 (k + 1) ((rng (k + 1)).map vi)) := Lib.hid (by rw [rng_succ, List.map_append]; exact o3)
      have HFn := Lib.hid ((HF.out.trans' fX).trans f3 fun i hi hs => by have := (HO.out.lt i hs).1; omega)
      clear o3 f3 at3 fX
      go_wp2_with (at_builtin; refine wpList_app rfl _ _ _ rfl rfl rfl r3 ?_)
      go_roundw
      case rel => exact ⟨k + 1, _, rfl, by omega, by go_num, HN, HFn⟩
      case measure => simp [intOf]; omega
    · obtain rfl : k = n := by omega
      have hd : decide ((k : Int) < (k : Int)) = false := by simp
      have H0 : Hid (∃ L O : List Int, Shf w k l (.slice none 0 0) wr L O ∧ O.length = 0) := Lib.hid ⟨rng k, [], ⟨by rw [rng_len]; exact HO.out, World.ownsRow_nil _ _ _ _, fun i _ h => (by cases h), by rw [rng_len]; simp, fun x => by rw [← rng_mem]; simp, HF.out⟩, rfl⟩
      clear HO HF
      go_wp2
      go_loopw [5, 6, 8] (fun l o i wr => ∃ (j : Nat) (o' : Value), o' = o ∧ i = .int .i64 (j : Int) ∧ ∃ L O, Hid (Shf w k l o wr L O) ∧ O.length = j) (fun _ _ i _ => k - (intOf i).toNat)
      case atStart =>
        obtain ⟨L, O, h1, h2⟩ := H0.out
        exact ⟨0, _, rfl, rfl, L, O, Lib.hid h1, h2⟩
      case round =>
        clear H0
        obtain ⟨j, o, rfl, rfl, L, O, HS, hoj⟩ := hrel
        obtain ⟨A1, c1, rfl, hc1, hr1, hft1⟩ := own_reads HS.out.ownl
        have hlen := HS.out.len
        have HR1 := Lib.hid hr1
        clear hft1 hr1
        by_cases h0 : 0 < L.length
        · have hd0 : decide ((L.length : Int) > 0) = true := by simp; omega
          have hd1 : decide ((0 : Int) < (L.length : Int)) = true := by simp; omega
          have eint : (L.length : Int) ≤ 4611686018427387904 := by omega
          have hone : ∀ (kk : Nat), kk < L.length → ∀ wx, (Instr.slice IL (.slice A1 L.length c1) none (some (.int .i64 (kk : Int))) none).run Tryz.prog wx = .ok (.slice A1 kk c1) wx := fun kk hk wx => by
            have := sl_hi (w := wx) (c := c1) (A := A1) (n := L.length) shi_el shi_size (kk : Int) (by omega) (by omega) hc1
            rwa [show (kk : Int).toNat = kk by omega] at this
          have htwo : ∀ (kk : Nat), kk < L.length → ∀ wx, (Instr.slice IL (.slice A1 L.length c1) (some (.int .i64 ((kk : Int) + 1))) none none).run Tryz.prog wx = .ok (.slice (if c1 = kk + 1 then A1 else A1.map (·.add ((kk + 1) * 1))) (L.length - (kk + 1)) (c1 - (kk + 1))) wx := fun kk hk wx => by
            have := sl_lo (w := wx) (c := c1) (A := A1) (n := L.length) shi_el shi_size ((kk : Int) + 1) (by omega) (by omega)
            rwa [show ((kk : Int) + 1).toNat = kk + 1 by omega] at this
          have H1 := Lib.hid hone
          have H2 := Lib.hid htwo
          have HC := Lib.hid hc1
          clear hone htwo hc1
          by_cases hpi : j < m
          · have hd2 : decide ((j : Int) < (m : Int)) = true := by simp; omega
            obtain ⟨pb, poff, px, rfl, hpb, hpx, hpc⟩ := shi_at (HP.out.frn HS.out.fr) hpi
            obtain ⟨kk, hkk⟩ : ∃ kk : Nat, px % (L.length : Int) = (kk : Int) := ⟨(px % (L.length : Int)).toNat, by have := Int.emod_nonneg px (show (L.length : Int) ≠ 0 by omega); omega⟩
            have hkl : kk < L.length := by have := Int.emod_lt_of_pos px (show (0 : Int) < L.length by omega); omega
            have HI : Hid (Calls Tryz.prog 12 #[.int .i64 px, .int .i64 (L.length : Int)] wr fun e w' => e = .returned (.int .i64 (kk : Int)) ∧ wr = w') := Lib.hid (by
              have := Hi.out px (L.length : Int) (by omega) (by omega) wr
              rwa [hkk] at this)
            clear hkk hpx
            go_upto_region 12 with (go_at_call 12; refine HI.out.mono ?_; rintro e0 w0 ⟨rfl, rfl⟩)
            have e2 : IntKind.i64.wrap ((kk : Int) + 1) = (kk : Int) + 1 := IntWalk.i64_in _ (by omega)
            obtain ⟨lb, loff, x, rfl, hlb, hx, hlc⟩ := shi_at HR1.out hkl
            have hs1 := H1.out kk hkl
            have hs2 := H2.out kk hkl
            obtain ⟨v3, w3, v4, w4, v5, w5, r3, r4, r5, L', O', hS', hO'⟩ := shuf_step HS.out HC.out hn hkl hx
            have HS2 := Lib.hid hS'
            have HO2 := Lib.hid hO'
            have HX := Lib.hid hx
            clear hS' hO' hx
            obtain ⟨A5, hA5⟩ : ∃ A5, A5 = (if c1 = kk + 1 then some (Addr.mk lb loff none) else (some (Addr.mk lb loff none)).map (·.add ((kk + 1) * 1))) := ⟨_, rfl⟩
            simp only [← hA5] at hs2 r5
            clear hA5 H1 H2 HC
            go_upto_region 13 with (at_builtin; refine wpList_app rfl _ _ _ rfl rfl rfl r3 ?_)
            clear r3
            go_upto_region 15 with (at_builtin; refine wpList_app rfl _ _ _ rfl rfl rfl r4 ?_)
            clear r4 hs1
            go_wp2_with (at_builtin; refine wpList_app rfl _ _ _ rfl rfl rfl r5 ?_)
            go_roundw
            case rel => exact ⟨j + 1, _, rfl, by go_num, L', O', HS2, by have := HO2.out; omega⟩
            case measure => simp [intOf]; omega
          · have hd2 : decide ((j : Int) < (m : Int)) = false := by simp; omega
            obtain ⟨lb, loff, x, rfl, hlb, hx, hlc⟩ := shi_at HR1.out h0
            have hlc0 : wr.cell? ⟨lb, loff, none⟩ = some (.int .i64 x) := by simpa using hlc
            obtain ⟨A5, hA5⟩ : ∃ A5, A5 = (if c1 = 0 + 1 then some (Addr.mk lb loff none) else (some (Addr.mk lb loff none)).map (·.add ((0 + 1) * 1))) := ⟨_, rfl⟩
            have hs1 : ∀ wx, (Instr.slice IL (.slice (some ⟨lb, loff, none⟩) L.length c1) none (some (.int .i64 0)) none).run Tryz.prog wx = .ok (.slice (some ⟨lb, loff, none⟩) 0 c1) wx := H1.out 0 h0
            have hs2 : ∀ wx, (Instr.slice IL (.slice (some ⟨lb, loff, none⟩) L.length c1) (some (.int .i64 1)) none none).run Tryz.prog wx = .ok (.slice A5 (L.length - 1) (c1 - 1)) wx := fun wx => by rw [hA5]; exact H2.out 0 h0 wx
            obtain ⟨v3, w3, v4, w4, v5, w5, r3, r4, r5, L', O', hS', hO'⟩ := shuf_step HS.out HC.out hn h0 hx
            have r5' : (Builtin.append_ #[IL, IL] IL #[v4, .slice A5 (L.length - 1) (c1 - 1)]).run Tryz.prog w4 = .ok v5 w5 := by rw [hA5]; exact r5
            have HS2 := Lib.hid hS'
            have HO2 := Lib.hid hO'
            clear hS' hO' hx hA5 H1 H2 HC r5
            go_upto_region 13 with (at_builtin; refine wpList_app rfl _ _ _ rfl rfl rfl r3 ?_)
            clear r3
            go_upto_region 15 with (at_builtin; refine wpList_app rfl _ _ _ rfl rfl rfl r4 ?_)
            clear r4 hs1
            go_wp2_with (at_builtin; refine wpList_app rfl _ _ _ rfl rfl rfl r5' ?_)
            go_roundw
            case rel => exact ⟨j + 1, _, rfl, by go_num, L', O', HS2, by have := HO2.out; omega⟩
            case measure => simp [intOf]; omega
        · have hd0 : decide ((L.length : Int) > 0) = false := decide_eq_false (by omega)
          have hd1 : decide ((0 : Int) < (L.length : Int)) = false := decide_eq_false (by omega)
          have HE : Hid (ShPost k w (.returned o) wr) := Lib.hid (by
            obtain ⟨A2, c2, e2, hc2, hr2, hft2⟩ := own_reads HS.out.owno
            have e3 : O.length = k := by omega
            rw [e3] at e2 hr2 hft2
            refine ⟨A2, c2, O, by rw [e2], hr2, fun x => ?_, hft2, HS.out.fr⟩
            rw [← HS.out.mem x]
            have : L = [] := List.eq_nil_of_length_eq_zero (by omega)
            simp [this])
          go_wp2
          go_ret
          exact HE.out
end Go.Proofs.YtodkhoclbhdihaaGreatDoor
