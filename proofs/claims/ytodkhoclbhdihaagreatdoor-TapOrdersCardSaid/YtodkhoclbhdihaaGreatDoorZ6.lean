/-
  Contract of wire's pick: the fields of a message read one after the other.
-/
import Derived.Test.YtodkhoclbhdihaaGreatDoorZ5
import Derived.Deep.Cut
import Derived.Test.YtodkhoclbhdihaaGreatDoorZ0
import Derived.Maps.AppendAt
import Derived.Test.YtodkhoclbhdihaaGreatDoorZ3
namespace Go.Proofs.YtodkhoclbhdihaaGreatDoor
open Go.RowKit

theorem Reading.keep {w w' : World} {r b : Nat} {xs : List UInt8} {p : Nat} {S : Nat → Prop} (h : Reading w r b xs p) (hf : Fr S w w') (h1 : ¬ S r) (h2 : ¬ S b) : Reading w' r b xs p :=
  ⟨Blk.fr h.rd hf h1, h.ne, h.blk.fr hf h2⟩
abbrev GT : TypeId := 185
def getsA (r : Nat) : Array Value := #[.nilFunc, .func (.func 101) #[.pointer (some ⟨r, 0, none⟩)] #[], .func (.func 102) #[.pointer (some ⟨r, 0, none⟩)] #[]]
def zeroV : V := fun _ => 0
/-- What pick answers. -/
def PickPost (w : World) (res : Except Nat V) (e : Ending) (w' : World) : Prop :=
  match res with
  | .ok v => e = .returned (.tuple #[.agg (vcells v), .nilIface]) ∧ Fr None' w w'
  | .error p => ∃ g, e = .returned (.tuple #[.agg (vcells zeroV), errV g]) ∧ Fault w' g (p : Int) 63 ∧ Fr None' w w'

theorem fr_set {w : World} {g i : Nat} {u : Value} : Fr (Only g) w (w.setCell ⟨g, i, none⟩ u) := Fr.setCell (S := Only g) (Fr.refl _ _) (.inr (show g = g from rfl)) u
theorem setCell_same {w : World} {a : Addr} {v : Value} (h : w.cell? a = some v) : w.setCell a v = w := by
  unfold World.cell? at h
  split at h
  · rename_i c e f hb
    split at h
    · cases h
    · rename_i hs
      refine (congrArg (fun h => ({ w with heap := h } : World)) ?_).trans rfl
      apply Array.ext_getElem?
      intro i
      rw [Array.getElem?_modify]
      by_cases hi : a.block = i
      · subst hi
        rw [if_pos rfl, hb]
        simp only [Option.map_some, hs]
        congr 2
        apply Array.ext_getElem?
        intro j
        simp only [Bool.false_eq_true, if_false]
        rw [Array.getElem?_setIfInBounds]
        split
        · rename_i hj
          subst hj
          split
          · exact h.symm
          · rename_i hlt
            rw [Array.getElem?_eq_none (by omega)]
        · rfl
      · rw [if_neg hi]
  · cases h
theorem Vals.zcell {w : World} {g : Nat} (h : Vals w g zeroV) : ∀ i, w.cell? ⟨g, i, none⟩ = (#[.int .i64 0, .int .i64 0, .int .i64 0, .int .i64 0, .int .i64 0, .int .i64 0, .int .i64 0, .int .i64 0, .int .i64 0, .int .i64 0, .int .i64 0, .int .i64 0, .int .i64 0, .int .i64 0] : Array Value)[i]? := fun i => Blk.cell h i
theorem Vals.zset {w : World} {g : Nat} (h : Vals w g zeroV) : ∀ i, i < 14 → w.setCell ⟨g, i, none⟩ (.int .i64 0) = w := fun i hi => setCell_same (h.at_ i hi)

/-- The blocks that pick works with, all new and all different. -/
structure PickNe (w : World) (vg rg gg r b : Nat) : Prop where
  rb : r ≠ b
  gv : gg ≠ vg
  gr : gg ≠ rg
  grd : gg ≠ r
  gb : gg ≠ b
  rv : r ≠ vg
  bv : b ≠ vg
  rr : r ≠ rg
  br : b ≠ rg
  vr : vg ≠ rg
  nv : w.heap.size ≤ vg
  nr : w.heap.size ≤ rg
  nrd : w.heap.size ≤ r
structure PickInv (w : World) (vg rg gg r b : Nat) (xs : List UInt8) (v : V) (p : Nat) (wr : World) : Prop where
  vals : Vals wr vg v
  res : Vals wr rg zeroV
  gets : Blk wr gg GT (getsA r)
  rd : Reading wr r b xs p
  fr : Fr None' w wr
theorem PickInv.read {w wr wr' : World} {vg rg gg r b : Nat} {xs : List UInt8} {v : V} {p p' : Nat} (N : PickNe w vg rg gg r b) (h : PickInv w vg rg gg r b xs v p wr) (hf : Fr (Only r) wr wr') (hr : Reading wr' r b xs p') : PickInv w vg rg gg r b xs v p' wr' :=
  ⟨h.vals.fr hf (fun e => N.rv e.symm), h.res.fr hf (fun e => N.rr e.symm), h.gets.fr hf (fun e => N.grd e), hr, h.fr.trans hf fun i hi hs => by have := N.nrd; unfold Only at hs; omega⟩
theorem PickInv.put {w wr : World} {vg rg gg r b : Nat} {xs : List UInt8} {v : V} {p : Nat} (N : PickNe w vg rg gg r b) (h : PickInv w vg rg gg r b xs v p wr) (f : Nat) (hf : f < 14) (x : Int) : PickInv w vg rg gg r b xs (setV v f x) p (wr.setCell ⟨vg, f, none⟩ (.int .i64 x)) := by
  have hk : Fr (Only vg) wr (wr.setCell ⟨vg, f, none⟩ (.int .i64 x)) := fr_set
  exact ⟨h.vals.set_ f hf x, h.res.fr hk (fun e => N.vr e.symm), h.gets.fr hk N.gv, h.rd.keep hk N.rv N.bv, h.fr.setCell (.inl N.nv) _⟩
theorem PickInv.frn {w wr wr' : World} {vg rg gg r b : Nat} {xs : List UInt8} {v : V} {p : Nat} (h : PickInv w vg rg gg r b xs v p wr) (hf : Fr None' wr wr') : PickInv w vg rg gg r b xs v p wr' :=
  ⟨h.vals.fr hf fun h => h, h.res.fr hf fun h => h, h.gets.fr hf fun h => h, h.rd.keep hf (fun h => h) fun h => h, h.fr.trans' hf⟩

theorem lenF_le {sh : List Nat} {k f : Nat} (h : sh[k]? = some f) : lenF (sh.take k) + sz f ≤ lenF sh := by
  have h1 := lenF_take h
  have : lenF sh = lenF (sh.take (k + 1)) + lenF (sh.drop (k + 1)) := by
    unfold lenF
    rw [← List.sum_append, ← List.map_append, List.take_append_drop]
  omega
theorem drop_cons {sh : List Nat} {k f : Nat} (h : sh[k]? = some f) : sh.drop k = f :: sh.drop (k + 1) := by
  obtain ⟨hk, rfl⟩ := List.getElem?_eq_some_iff.1 h
  exact List.drop_eq_getElem_cons hk

set_option maxHeartbeats 4000000 in
theorem pick_any (A A2 : Option Addr) (n c n2 c2 : Nat) (xs : List UInt8) (sh : List Nat) (own : Bool) (w : World) (hS : SizeG w) (ha : RB w A n xs) (hs : RN w A2 n2 sh) (hm : ∀ f ∈ sh, f < 14) (hl : n = 1 + lenF sh) (hn : n ≤ 100) (hn2 : n2 ≤ 100) :
    Calls Tryz.prog 72 #[.slice A n c, .slice A2 n2 c2, .bool own] w (PickPost w (pickF xs own sh 1 (setV zeroV 0 (((xs[0]?).getD 0).toNat : Int)))) := by
  have hlen := ha.len1
  rw [List.length_map] at hlen
  have HL := Lib.hid hlen
  have HL2 := Lib.hid hs.len
  have HN := Lib.hid hl
  clear hlen hl
  have hv0 : Vals ((w.alloc (.cells (vcells zeroV) 139)).alloc (.cells (vcells zeroV) 139)) (w.heap.size + 1) zeroV := by
    unfold Vals
    have := Blk.new (w.alloc (.cells (vcells zeroV) 139)) 139 (vcells zeroV)
    simpa using this
  have hr0 : Vals ((w.alloc (.cells (vcells zeroV) 139)).alloc (.cells (vcells zeroV) 139)) w.heap.size zeroV := (Blk.new w 139 (vcells zeroV)).alloc _
  have hf0 : Fr None' w ((w.alloc (.cells (vcells zeroV) 139)).alloc (.cells (vcells zeroV) 139)) := ((Fr.refl _ _).alloc _).alloc _
  have hs0 : ((w.alloc (.cells (vcells zeroV) 139)).alloc (.cells (vcells zeroV) 139)).heap.size = w.heap.size + 2 := by simp
  go_enter Tryz.func72, Tryz.ntmps72
  go_wp2_with fail
  show Calls _ _ _ ((w.alloc (.cells (vcells zeroV) 139)).alloc (.cells (vcells zeroV) 139)) _
  generalize ((w.alloc (.cells (vcells zeroV) 139)).alloc (.cells (vcells zeroV) 139)) = W0 at *
  refine (newReader_any A n c xs W0 (ha.frn hf0) (by omega)).mono ?_
  rintro e w1 ⟨r, b, rfl, hrW, hbW, hrb, hrd, hbb, hf1⟩
  have hR1 : Reading w1 r b xs 0 := ⟨by rw [HL.out]; exact hrd, hrb, hbb⟩
  have hv1 := hv0.fr hf1 fun h => h
  have hr1 := hr0.fr hf1 fun h => h
  have hf01 := hf0.trans' hf1
  have hx1 : Fr None' w1 (w1.alloc (.cells (getsA r) GT)) := (Fr.refl _ _).alloc _
  have N : PickNe w (w.heap.size + 1) w.heap.size w1.heap.size r b := by
    have h1 := hf1.size
    have h2 := Blk.lt hrd
    have h3 := hbb.lt
    exact ⟨hrb, by omega, by omega, by omega, by omega, by omega, by omega, by omega, by omega, by omega, by omega, by omega, by omega⟩
  have I2 : PickInv w (w.heap.size + 1) w.heap.size w1.heap.size r b xs zeroV 0 (w1.alloc (.cells (getsA r) GT)) :=
    ⟨hv1.fr hx1 fun h => h, hr1.fr hx1 fun h => h, Blk.new _ _ _, hR1.keep hx1 (fun h => h) (fun h => h), hf01.trans' hx1⟩
  have J2 := Lib.hid I2
  have HNe := Lib.hid N
  clear hv0 hr0 hf0 hs0 hrd hbb hf1 hR1 hv1 hr1 hf01 hx1 hrW hbW I2 N hrb
  have hgets : getsA r = #[.nilFunc, .func (.func 101) #[.pointer (some ⟨r, 0, none⟩)] #[], .func (.func 102) #[.pointer (some ⟨r, 0, none⟩)] #[]] := rfl
  rw [hgets] at J2
  clear hgets
  go_wp2_with fail
  generalize hw2 : w1.alloc _ = w2 at *
  generalize hgg : w1.heap.size = gg at *
  generalize hvg : w.heap.size + 1 = vg at *
  generalize hrg : w.heap.size = rg at *
  clear hw2 hgg hvg hrg
  obtain ⟨u0, hu0⟩ : ∃ u, xs[0]? = some u := ⟨_, List.getElem?_eq_getElem (by have := HL.out; have := HN.out; omega)⟩
  have HU0 : Hid ((((xs[0]?).getD 0).toNat : Int) = (u0.toNat : Int)) := by
    show (((xs[0]?).getD 0).toNat : Int) = (u0.toNat : Int)
    rw [hu0]
    rfl
  refine (u8_any r b 0 xs u0 w2 J2.out.rd hu0 (by have := HL.out; omega)).mono ?_
  rintro e w3 ⟨rfl, hR3, hf3⟩
  have J3 := Lib.hid (J2.out.read HNe.out hf3 hR3)
  have c0 := J3.out.vals.at_ 0 (by omega)
  have f0 := Blk.frozen J3.out.vals 0
  have J4 := Lib.hid (J3.out.put HNe.out 0 (by omega) (u0.toNat : Int))
  clear hR3 hf3 J2
  go_wp2
  have J5 := J4
  generalize w3.setCell _ _ = w4 at *
  go_loopw [27] (fun i wr => ∃ k p v, k ≤ n2 ∧ i = .int .i64 (k : Nat) ∧ p = 1 + lenF (sh.take k) ∧ PickInv w vg rg gg r b xs v p wr ∧ pickF xs own sh 1 (setV zeroV 0 (u0.toNat : Int)) = pickF xs own (sh.drop k) p v) (fun i _ => n2 - (intOf i).toNat)
  case atStart => exact ⟨0, 1, _, Nat.zero_le _, rfl, rfl, J5.out, rfl⟩
  case round =>
    clear J5 c0 f0 J3 J4
    obtain ⟨k, p, v, hk, rfl, hp, hI, hq⟩ := hrel
    have HPK := Lib.hid hp
    clear hp
    have J := Lib.hid hI
    have HQ := Lib.hid hq
    clear hq hI
    by_cases hlt : k < n2
    · obtain ⟨b2, off, f, rfl, hbb, hx, hc⟩ := RN.at_ (hs.frn J.out.fr) hlt
      have hfl : f < 14 := hm f (List.mem_of_getElem? hx)
      have hcs := hS.fr J.out.fr (fun h => h) f hfl
      have hfi : (f : Int) < 14 := by omega
      have p1 := J.out.gets.cell 1
      have p2 := J.out.gets.cell 2
      unfold getsA at p1 p2
      have hle : p + sz f ≤ n := by rw [HPK.out]; have := lenF_le hx; have := HN.out; omega
      have HX := Lib.hid hx
      clear hx
      have hps : p < 1000 := by omega
      have Hat := Lib.hid (rdAt_any r b 0 xs.length xs.length p wr J.out.rd.rd)
      obtain hsz | hsz := sz_12 f hfl
      · skip
        obtain ⟨u, hu⟩ : ∃ u, xs[p]? = some u := ⟨_, List.getElem?_eq_getElem (by have := HL.out; omega)⟩
        have hu8 := u8_lt u
        have GET : Hid (getN xs p (sz f) = (u.toNat : Int)) := by
          show getN xs p (sz f) = (u.toNat : Int)
          rw [hsz, getN, if_neg (by omega), hu]
          rfl
        have Hrd := Lib.hid (u8_any r b _ xs u wr J.out.rd hu (by have := HL.out; omega))

        have HSZ := Lib.hid hsz
        rw [hsz] at hcs
        clear hsz hu
        go_wp2_with (first | (go_at_call 103; refine Hat.out.mono ?_; rintro e w' ⟨rfl, rfl⟩))
        refine Hrd.out.mono ?_
        rintro e w5 ⟨rfl, hR5, hf5⟩
        have J5 := Lib.hid (J.out.read HNe.out hf5 hR5)
        have cf := J5.out.vals.at_ f hfl
        have ff := Blk.frozen J5.out.vals f
        have J6 := Lib.hid (J5.out.put HNe.out f hfl ((u.toNat : Int)))
        clear hR5 hf5 hcs hc p1 p2
        go_upto_if 41 with (fail)
        clear cf ff
        generalize w5.setCell _ _ = w6 at *
        cases own with
        | true =>
          have c2 := J6.out.vals.at_ 2 (by omega)
          cases hmv : mayB f (setV v f ((u.toNat : Int))) ((setV v f ((u.toNat : Int))) 2) with
          | true =>
            have HNX : Hid (pickF xs true sh 1 (setV zeroV 0 (u0.toNat : Int)) = pickF xs true (sh.drop (k + 1)) (p + sz f) (setV v f ((u.toNat : Int)))) := by
              show pickF xs true sh 1 (setV zeroV 0 (u0.toNat : Int)) = _
              rw [HQ.out, drop_cons HX.out, pickF, GET.out]
              simp only [if_true]
              rw [hmv, if_pos rfl]
            have Hm := may_any vg f (setV v f ((u.toNat : Int))) ((setV v f ((u.toNat : Int))) 2) w6 J6.out.vals hfl
            rw [hmv] at Hm
            have HM := Lib.hid Hm
            clear Hm hmv
            go_wp2_with (first | (go_at_call 94; refine HM.out.mono ?_; rintro e w7 ⟨rfl, rfl⟩))
            go_roundw
            case rel => exact ⟨k + 1, p + sz f, _, by omega, by go_num, by rw [lenF_take HX.out, HPK.out]; omega, by rw [HSZ.out]; exact J6.out, HNX.out⟩
            case measure => simp [intOf]; omega
          | false =>
            have HNX : Hid (pickF xs true sh 1 (setV zeroV 0 (u0.toNat : Int)) = .error p) := by
              show pickF xs true sh 1 (setV zeroV 0 (u0.toNat : Int)) = _
              rw [HQ.out, drop_cons HX.out, pickF, GET.out]
              simp only [if_true]
              rw [hmv, if_neg (by simp)]
            have Hm := may_any vg f (setV v f ((u.toNat : Int))) ((setV v f ((u.toNat : Int))) 2) w6 J6.out.vals hfl
            rw [hmv] at Hm
            have HM := Lib.hid Hm
            clear Hm hmv
            go_wp2_with (first | (go_at_call 94; refine HM.out.mono ?_; rintro e w7 ⟨rfl, rfl⟩))
            refine (wrap_any _ _ _).mono ?_
            rintro e w8 ⟨rfl, hF, rfl⟩
            have hres := J6.out.res.fr (S := None') ((Fr.refl _ _).alloc (.cells (faultCells (p : Int) 63) 148)) (fun h => h)
            have hcz := hres.zcell
            have hfz := fun i => Blk.frozen hres i
            have hsm := hres.zset
            have HF8 := Lib.hid (J6.out.fr.alloc (.cells (faultCells (p : Int) 63) 148))
            have HF := Lib.hid hF
            clear hF hres
            generalize w6.alloc _ = w8 at *
            go_wp2
            refine bodyPost_ret (v := .tuple #[.agg (vcells zeroV), errV w6.heap.size]) (by simp [results, Tryz.results72, go_sem, hcz]; rfl) rfl ?_
            unfold PickPost
            rw [HU0.out, HNX.out]
            exact ⟨_, rfl, HF.out, HF8.out⟩
        | false =>
          cases hmv : mayB f (setV v f ((u.toNat : Int))) (0) with
          | true =>
            have HNX : Hid (pickF xs false sh 1 (setV zeroV 0 (u0.toNat : Int)) = pickF xs false (sh.drop (k + 1)) (p + sz f) (setV v f ((u.toNat : Int)))) := by
              show pickF xs false sh 1 (setV zeroV 0 (u0.toNat : Int)) = _
              rw [HQ.out, drop_cons HX.out, pickF, GET.out]
              simp only [Bool.false_eq_true, if_false]
              rw [hmv, if_pos rfl]
            have Hm := may_any vg f (setV v f ((u.toNat : Int))) (0) w6 J6.out.vals hfl
            rw [hmv] at Hm
            have HM := Lib.hid Hm
            clear Hm hmv
            go_wp2_with (first | (go_at_call 94; refine HM.out.mono ?_; rintro e w7 ⟨rfl, rfl⟩))
            go_roundw
            case rel => exact ⟨k + 1, p + sz f, _, by omega, by go_num, by rw [lenF_take HX.out, HPK.out]; omega, by rw [HSZ.out]; exact J6.out, HNX.out⟩
            case measure => simp [intOf]; omega
          | false =>
            have HNX : Hid (pickF xs false sh 1 (setV zeroV 0 (u0.toNat : Int)) = .error p) := by
              show pickF xs false sh 1 (setV zeroV 0 (u0.toNat : Int)) = _
              rw [HQ.out, drop_cons HX.out, pickF, GET.out]
              simp only [Bool.false_eq_true, if_false]
              rw [hmv, if_neg (by simp)]
            have Hm := may_any vg f (setV v f ((u.toNat : Int))) (0) w6 J6.out.vals hfl
            rw [hmv] at Hm
            have HM := Lib.hid Hm
            clear Hm hmv
            go_wp2_with (first | (go_at_call 94; refine HM.out.mono ?_; rintro e w7 ⟨rfl, rfl⟩))
            refine (wrap_any _ _ _).mono ?_
            rintro e w8 ⟨rfl, hF, rfl⟩
            have hres := J6.out.res.fr (S := None') ((Fr.refl _ _).alloc (.cells (faultCells (p : Int) 63) 148)) (fun h => h)
            have hcz := hres.zcell
            have hfz := fun i => Blk.frozen hres i
            have hsm := hres.zset
            have HF8 := Lib.hid (J6.out.fr.alloc (.cells (faultCells (p : Int) 63) 148))
            have HF := Lib.hid hF
            clear hF hres
            generalize w6.alloc _ = w8 at *
            go_wp2
            refine bodyPost_ret (v := .tuple #[.agg (vcells zeroV), errV w6.heap.size]) (by simp [results, Tryz.results72, go_sem, hcz]; rfl) rfl ?_
            unfold PickPost
            rw [HU0.out, HNX.out]
            exact ⟨_, rfl, HF.out, HF8.out⟩
      · skip
        obtain ⟨u, hu⟩ : ∃ u, xs[p]? = some u := ⟨_, List.getElem?_eq_getElem (by have := HL.out; omega)⟩
        obtain ⟨u', hu'⟩ : ∃ u, xs[p + 1]? = some u := ⟨_, List.getElem?_eq_getElem (by have := HL.out; omega)⟩
        have hu8 := u8_lt u
        have hu8' := u8_lt u'
        have GET : Hid (getN xs p (sz f) = (u.toNat : Int) * 256 + (u'.toNat : Int)) := by
          show getN xs p (sz f) = (u.toNat : Int) * 256 + (u'.toNat : Int)
          rw [hsz, getN, if_pos rfl, hu, hu']
          rfl
        have Hrd := Lib.hid (u16_any r b _ xs u u' wr J.out.rd hu hu' (by have := HL.out; omega))

        have HSZ := Lib.hid hsz
        rw [hsz] at hcs
        clear hsz hu hu'
        go_wp2_with (first | (go_at_call 103; refine Hat.out.mono ?_; rintro e w' ⟨rfl, rfl⟩))
        refine Hrd.out.mono ?_
        rintro e w5 ⟨rfl, hR5, hf5⟩
        have J5 := Lib.hid (J.out.read HNe.out hf5 hR5)
        have cf := J5.out.vals.at_ f hfl
        have ff := Blk.frozen J5.out.vals f
        have J6 := Lib.hid (J5.out.put HNe.out f hfl ((u.toNat : Int) * 256 + (u'.toNat : Int)))
        clear hR5 hf5 hcs hc p1 p2
        go_upto_if 41 with (fail)
        clear cf ff
        generalize w5.setCell _ _ = w6 at *
        cases own with
        | true =>
          have c2 := J6.out.vals.at_ 2 (by omega)
          cases hmv : mayB f (setV v f ((u.toNat : Int) * 256 + (u'.toNat : Int))) ((setV v f ((u.toNat : Int) * 256 + (u'.toNat : Int))) 2) with
          | true =>
            have HNX : Hid (pickF xs true sh 1 (setV zeroV 0 (u0.toNat : Int)) = pickF xs true (sh.drop (k + 1)) (p + sz f) (setV v f ((u.toNat : Int) * 256 + (u'.toNat : Int)))) := by
              show pickF xs true sh 1 (setV zeroV 0 (u0.toNat : Int)) = _
              rw [HQ.out, drop_cons HX.out, pickF, GET.out]
              simp only [if_true]
              rw [hmv, if_pos rfl]
            have Hm := may_any vg f (setV v f ((u.toNat : Int) * 256 + (u'.toNat : Int))) ((setV v f ((u.toNat : Int) * 256 + (u'.toNat : Int))) 2) w6 J6.out.vals hfl
            rw [hmv] at Hm
            have HM := Lib.hid Hm
            clear Hm hmv
            go_wp2_with (first | (go_at_call 94; refine HM.out.mono ?_; rintro e w7 ⟨rfl, rfl⟩))
            go_roundw
            case rel => exact ⟨k + 1, p + sz f, _, by omega, by go_num, by rw [lenF_take HX.out, HPK.out]; omega, by rw [HSZ.out]; exact J6.out, HNX.out⟩
            case measure => simp [intOf]; omega
          | false =>
            have HNX : Hid (pickF xs true sh 1 (setV zeroV 0 (u0.toNat : Int)) = .error p) := by
              show pickF xs true sh 1 (setV zeroV 0 (u0.toNat : Int)) = _
              rw [HQ.out, drop_cons HX.out, pickF, GET.out]
              simp only [if_true]
              rw [hmv, if_neg (by simp)]
            have Hm := may_any vg f (setV v f ((u.toNat : Int) * 256 + (u'.toNat : Int))) ((setV v f ((u.toNat : Int) * 256 + (u'.toNat : Int))) 2) w6 J6.out.vals hfl
            rw [hmv] at Hm
            have HM := Lib.hid Hm
            clear Hm hmv
            go_wp2_with (first | (go_at_call 94; refine HM.out.mono ?_; rintro e w7 ⟨rfl, rfl⟩))
            refine (wrap_any _ _ _).mono ?_
            rintro e w8 ⟨rfl, hF, rfl⟩
            have hres := J6.out.res.fr (S := None') ((Fr.refl _ _).alloc (.cells (faultCells (p : Int) 63) 148)) (fun h => h)
            have hcz := hres.zcell
            have hfz := fun i => Blk.frozen hres i
            have hsm := hres.zset
            have HF8 := Lib.hid (J6.out.fr.alloc (.cells (faultCells (p : Int) 63) 148))
            have HF := Lib.hid hF
            clear hF hres
            generalize w6.alloc _ = w8 at *
            go_wp2
            refine bodyPost_ret (v := .tuple #[.agg (vcells zeroV), errV w6.heap.size]) (by simp [results, Tryz.results72, go_sem, hcz]; rfl) rfl ?_
            unfold PickPost
            rw [HU0.out, HNX.out]
            exact ⟨_, rfl, HF.out, HF8.out⟩
        | false =>
          cases hmv : mayB f (setV v f ((u.toNat : Int) * 256 + (u'.toNat : Int))) (0) with
          | true =>
            have HNX : Hid (pickF xs false sh 1 (setV zeroV 0 (u0.toNat : Int)) = pickF xs false (sh.drop (k + 1)) (p + sz f) (setV v f ((u.toNat : Int) * 256 + (u'.toNat : Int)))) := by
              show pickF xs false sh 1 (setV zeroV 0 (u0.toNat : Int)) = _
              rw [HQ.out, drop_cons HX.out, pickF, GET.out]
              simp only [Bool.false_eq_true, if_false]
              rw [hmv, if_pos rfl]
            have Hm := may_any vg f (setV v f ((u.toNat : Int) * 256 + (u'.toNat : Int))) (0) w6 J6.out.vals hfl
            rw [hmv] at Hm
            have HM := Lib.hid Hm
            clear Hm hmv
            go_wp2_with (first | (go_at_call 94; refine HM.out.mono ?_; rintro e w7 ⟨rfl, rfl⟩))
            go_roundw
            case rel => exact ⟨k + 1, p + sz f, _, by omega, by go_num, by rw [lenF_take HX.out, HPK.out]; omega, by rw [HSZ.out]; exact J6.out, HNX.out⟩
            case measure => simp [intOf]; omega
          | false =>
            have HNX : Hid (pickF xs false sh 1 (setV zeroV 0 (u0.toNat : Int)) = .error p) := by
              show pickF xs false sh 1 (setV zeroV 0 (u0.toNat : Int)) = _
              rw [HQ.out, drop_cons HX.out, pickF, GET.out]
              simp only [Bool.false_eq_true, if_false]
              rw [hmv, if_neg (by simp)]
            have Hm := may_any vg f (setV v f ((u.toNat : Int) * 256 + (u'.toNat : Int))) (0) w6 J6.out.vals hfl
            rw [hmv] at Hm
            have HM := Lib.hid Hm
            clear Hm hmv
            go_wp2_with (first | (go_at_call 94; refine HM.out.mono ?_; rintro e w7 ⟨rfl, rfl⟩))
            refine (wrap_any _ _ _).mono ?_
            rintro e w8 ⟨rfl, hF, rfl⟩
            have hres := J6.out.res.fr (S := None') ((Fr.refl _ _).alloc (.cells (faultCells (p : Int) 63) 148)) (fun h => h)
            have hcz := hres.zcell
            have hfz := fun i => Blk.frozen hres i
            have hsm := hres.zset
            have HF8 := Lib.hid (J6.out.fr.alloc (.cells (faultCells (p : Int) 63) 148))
            have HF := Lib.hid hF
            clear hF hres
            generalize w6.alloc _ = w8 at *
            go_wp2
            refine bodyPost_ret (v := .tuple #[.agg (vcells zeroV), errV w6.heap.size]) (by simp [results, Tryz.results72, go_sem, hcz]; rfl) rfl ?_
            unfold PickPost
            rw [HU0.out, HNX.out]
            exact ⟨_, rfl, HF.out, HF8.out⟩
    · have HNX : Hid (pickF xs own sh 1 (setV zeroV 0 (u0.toNat : Int)) = .ok v) := by
        show pickF xs own sh 1 (setV zeroV 0 (u0.toNat : Int)) = .ok v
        rw [HQ.out, List.drop_of_length_le (by have := HL2.out; omega)]
        rfl
      have cg : ∀ i, wr.cell? ⟨vg, i, none⟩ = (#[.int .i64 (v 0), .int .i64 (v 1), .int .i64 (v 2), .int .i64 (v 3), .int .i64 (v 4), .int .i64 (v 5), .int .i64 (v 6), .int .i64 (v 7), .int .i64 (v 8), .int .i64 (v 9), .int .i64 (v 10), .int .i64 (v 11), .int .i64 (v 12), .int .i64 (v 13)] : Array Value)[i]? := Blk.cell J.out.vals
      have cr := J.out.res.zcell
      have fr := fun i => Blk.frozen J.out.res i
      go_wp2
      refine bodyPost_ret (v := .tuple #[.agg (vcells v), .nilIface]) (by simp [results, Tryz.results72, go_sem, cr]; rfl) rfl ?_
      unfold PickPost
      rw [HU0.out, HNX.out]
      refine ⟨rfl, ?_⟩
      iterate 14 refine Fr.setCell ?_ (.inl HNe.out.nr) _
      exact J.out.fr
end Go.Proofs.YtodkhoclbhdihaaGreatDoor

/-
  Contract of wire's values.op: the operation of a message's fields.
-/
namespace Go.Proofs.YtodkhoclbhdihaaGreatDoor
open Go.RowKit

theorem ch_of (x : Int) (h : 0 ≤ x) : (((UInt8.ofNat x.toNat).toNat : Nat) : Int) = x % 256 := by
  rw [UInt8.toNat_ofNat']
  omega
def opV (o : GOp) : Value := .agg (opCells o).toArray

set_option maxHeartbeats 2000000 in
theorem vop_any (g : Nat) (v : V) (w : World) (hv : Vals w g v) (h11 : 0 ≤ v 11) :
    Calls Tryz.prog 73 #[.pointer (some ⟨g, 0, none⟩)] w fun e w' => e = .returned (opV (opOf v)) ∧ Fr None' w w' := by
  have cg : ∀ i, w.cell? ⟨g, i, none⟩ = (#[.int .i64 (v 0), .int .i64 (v 1), .int .i64 (v 2), .int .i64 (v 3), .int .i64 (v 4), .int .i64 (v 5), .int .i64 (v 6), .int .i64 (v 7), .int .i64 (v 8), .int .i64 (v 9), .int .i64 (v 10), .int .i64 (v 11), .int .i64 (v 12), .int .i64 (v 13)] : Array Value)[i]? := Blk.cell hv
  have hlt : g < w.heap.size := Blk.lt hv
  have hfin : opV (opOf v) = .agg #[.int .i64 (v 9), .int .i64 (v 10), .int .u8 (v 11 % 256), .int .i64 (v 12), .int .i64 (v 13)] := by
    unfold opV opCells opOf
    rw [ch_of _ h11]
  rw [hfin]
  clear hfin hv
  go_enter Tryz.func73, Tryz.ntmps73
  go_wp2
  refine wp_region_tail 22 (by kernel_rfl) (by kernel_rfl) ?_
  simp only [List.take_succ_cons, List.take_zero, List.drop_succ_cons, List.drop_zero]
  repeat (go_big_quiet_step (fail))
  refine wpQuiet_nil ?_
  go_wp2
  exact bodyPost_ret (v := .agg #[.int .i64 (v 9), .int .i64 (v 10), .int .u8 (v 11 % 256), .int .i64 (v 12), .int .i64 (v 13)]) (by simp [results, Tryz.results73, go_sem]) rfl ⟨rfl, by first | exact ((Fr.refl _ _).alloc _).drew | exact ((Fr.refl _ _).drew.alloc _)⟩
end Go.Proofs.YtodkhoclbhdihaaGreatDoor

/-
  Lists that a call makes and lengthens: append of whatever a slice reads, and what of the world has turned. No program in it.
-/
namespace Go.Proofs.YtodkhoclbhdihaaGreatDoor

section
variable {P : Program} {w w' W : World} {base : Nat} {e : TypeId} {size n : Nat} {v : Value} {xs : List Value}
/-- An own slice, read. -/
theorem own_reads (h : w.ownsRow base e size v n xs) : ∃ A c, v = .slice A n c ∧ n ≤ c ∧ Reads w size A n xs ∧ ∀ k, Foot A n k → base ≤ k := by
  rcases h.2 with ⟨rfl, rfl⟩ | ⟨g, cap, cur, rfl, hb, hg, hc, _, _, htake⟩
  · have hx : xs = [] := List.eq_nil_of_length_eq_zero (by simpa using h.1)
    subst hx
    exact ⟨none, 0, rfl, Nat.le_refl _, Reads.nil, fun k hk => by have := hk.1; omega⟩
  · refine ⟨some ⟨g, 0, none⟩, cap, rfl, hc, ⟨h.1, fun _ => ⟨g, 0, rfl, lt_of_heap hg, fun j u hu => ?_⟩⟩, fun k hk => ?_⟩
    · have hc := cell_of_row w g (0 + j) cur e (0, 0) hg
      rw [hc, ← hu, ← htake, List.getElem?_take]
      have hj : j < n * size := by
        have := (List.getElem?_eq_some_iff.1 hu).1
        rw [h.1] at this
        exact this
      rw [if_pos hj]
      simp
    · obtain ⟨_, a, ha, rfl⟩ := hk
      cases ha
      exact hb
theorem own_fr {S : Nat → Prop} (h : w.ownsRow base e size v n xs) (hf : Fr S w w') (hs : ∀ k, v.ownBlock = some k → ¬ S k) : w'.ownsRow base e size v n xs := by
  refine ⟨h.1, ?_⟩
  rcases h.2 with hn | ⟨g, cap, cur, rfl, hb, hg, rest⟩
  · exact .inl hn
  · exact .inr ⟨g, cap, cur, rfl, hb, (hf.block g (lt_of_heap hg) (hs g rfl)).trans hg, rest⟩
/-- append, whatever is appended. -/
theorem app_any {t ty : TypeId} {z : Value} {bytes : Nat} (ht : P.underlying t = some (.slice e)) (hinfo : (P.info? e).map (fun i => (i.zero, i.size, i.bytes)) = some (some z, size, bytes)) (hzs : z.cells.size = size) (hsz : 0 < size)
    (hown : w.ownsRow base e size v n xs) {A : Option Addr} {m c : Nat} {news : List Value} (hr : Reads w size A m news) (h1 : ∀ u ∈ news, u.oneCell' = true) (hn : n + m ≤ 1000000) (hby : bytes ≤ 1000) (hbase : base ≤ w.heap.size) :
    ∃ v' w', (Builtin.append_ #[t, t] ty #[v, .slice A m c]).run P w = .ok v' w' ∧ w'.ownsRow base e size v' (n + m) (xs ++ news) ∧ Fr (fun k => v.ownBlock = some k) w w' ∧ (v'.ownBlock = v.ownBlock ∨ v'.ownBlock = some w.heap.size) := by
  obtain ⟨i, hi, hi2⟩ : ∃ i, P.info? e = some i ∧ (i.zero, i.size, i.bytes) = (some z, size, bytes) := by
    cases h : P.info? e with
    | none => rw [h] at hinfo; cases hinfo
    | some i => rw [h] at hinfo; exact ⟨i, rfl, Option.some.inj hinfo⟩
  simp only [Prod.mk.injEq] at hi2
  obtain ⟨hz, hs, hb⟩ := hi2
  have hbb : (n + m) * bytes ≤ 140737488355328 := Nat.le_trans (Nat.mul_le_mul hn hby) (by decide)
  cases A with
  | some a =>
    by_cases hm : 0 < m
    · obtain ⟨b, off, ha, _, hc⟩ := hr.2 hm
      cases ha
      obtain ⟨v', w', r1, r2, r3, _, r5⟩ := run_append_own_at (P := P) w base t ty e i z size bytes ht hi hz hs hb hzs hsz v n xs hown ⟨b, off, none⟩ m c news hr.1 (fun j u hu => by
        have := hc j u hu
        unfold Addr.add
        split
        · rename_i h0; subst h0; simpa using this
        · exact this) h1 (by simp only [maxLen]; omega) hbb hbase
      exact ⟨v', w', r1, r2, ⟨r3.os, r3.tape, r3.output, r3.size, fun k hk hne => r3.block k hk fun e => hne e.symm⟩, r5⟩
    · have hm0 : m = 0 := by omega
      subst hm0
      have hx : news = [] := List.eq_nil_of_length_eq_zero (by simpa using hr.1)
      subst hx
      obtain ⟨v', w', r1, r2, r3, _, r5⟩ := run_append_own_at (P := P) w base t ty e i z size bytes ht hi hz hs hb hzs hsz v n xs hown a 0 c [] hr.1 (fun j u hu => by simp at hu) h1 (by simp only [maxLen]; omega) hbb hbase
      exact ⟨v', w', r1, r2, ⟨r3.os, r3.tape, r3.output, r3.size, fun k hk hne => r3.block k hk fun e => hne e.symm⟩, r5⟩
  | none =>
    have hm0 : m = 0 := by
      rcases Nat.eq_zero_or_pos m with h | h
      · exact h
      · obtain ⟨_, _, h, _⟩ := hr.2 h
        cases h
    subst hm0
    have hx : news = [] := List.eq_nil_of_length_eq_zero (by simpa using hr.1)
    subst hx
    refine ⟨v, w, ?_, by simpa using hown, Fr.refl _ _, .inl rfl⟩
    rcases hown.2 with ⟨rfl, rfl⟩ | ⟨g, cap, cur, rfl, hbg, hg, hc, _⟩
    · simp [Builtin.append_, run_underlying ht, sizeOf, typeInfo, hi, Builtin.lenOf, Builtin.firstCells]
    · simp [Builtin.append_, run_underlying ht, sizeOf, typeInfo, hi, Builtin.lenOf, Builtin.firstCells, hc, storeCells]
/-- An append whose run is known, at the operation. -/
theorem wpList_app {ops : Array Oper} {rest : List Oper} {o : Oper} {a : Act} {Q : Exit → Act → World → Prop} (hgd : o.guard = none) (s x : Operand) (t : TypeId)
    (ho : o.op = .call { callee := .builtin .append, args := #[s, x], argTypes := #[t, t] }) {u y v' : Value} (hs : a.eval s = u) (hx : a.eval x = y)
    (hr : (Builtin.append_ #[t, t] o.type #[u, y]).run P w = .ok v' w') (h : wpList P ops Q rest (a.put o.dst v') w') : wpList P ops Q (o :: rest) a w :=
  wpList_plain hgd fun _ hK => by
    unfold Oper.wp execOp
    simp only [ho, resolve, invoke, builtin, Sem.run_bind, Sem.run_pure, Result.andThen_ok, List.map_toArray, List.map_cons, List.map_nil, hs, hx, hr]
    exact hK _ _ h
/-- make of an empty list with room. -/
theorem mk_any {t : TypeId} {z : Value} {bytes : Nat} (ht : P.underlying t = some (.slice e)) (hinfo : (P.info? e).map (fun i => (i.zero, i.size, i.bytes)) = some (some z, size, bytes)) (c : Nat) (C : Int) (hC : C = c) (hc : c ≤ 1000000) (hby : bytes ≤ 1000) (hbase : base ≤ w.heap.size) :
    ∃ w', (Instr.makeSlice t (.int .i64 0) (.int .i64 C)).run P w = .ok (.slice (some ⟨w.heap.size, 0, none⟩) 0 c) w' ∧ w'.ownsRow base e size (.slice (some ⟨w.heap.size, 0, none⟩) 0 c) 0 [] ∧ Fr None' w w' := by
  subst hC
  obtain ⟨i, hi, hi2⟩ : ∃ i, P.info? e = some i ∧ (i.zero, i.size, i.bytes) = (some z, size, bytes) := by
    cases h : P.info? e with
    | none => rw [h] at hinfo; cases hinfo
    | some i => rw [h] at hinfo; exact ⟨i, rfl, Option.some.inj hinfo⟩
  simp only [Prod.mk.injEq] at hi2
  obtain ⟨hz, hs, hb⟩ := hi2
  have hbb : i.bytes * c ≤ 281474976710656 := by rw [hb]; exact Nat.le_trans (Nat.mul_le_mul hby hc) (by decide)
  obtain ⟨w', h1, h2, h3⟩ := run_make_own (P := P) w base t e i z size ht hi hz hs .i64 .i64 c hbb (by simp only [maxLen]; omega) hbase
  exact ⟨w', h1, h2, h3.os, h3.tape, h3.output, h3.size, fun k hk _ => h3.block k hk (by simp)⟩
/-- The built list of one element, read. -/
theorem one_reads (w : World) (t : TypeId) (cs : List Value) : Reads (w.alloc (.cells cs.toArray t)) cs.length (some ⟨w.heap.size, 0, none⟩) 1 cs :=
  (Blk.new w t cs.toArray).reads (fun j u hu => by simpa using hu) (by simp)
end
end Go.Proofs.YtodkhoclbhdihaaGreatDoor

/-
  Contracts of package doc: within, Valid, Fits.
-/
namespace Go.Proofs.YtodkhoclbhdihaaGreatDoor
open Go.RowKit

def inB (x lo hi : Int) : Bool := decide (lo ≤ x) && decide (x ≤ hi)
theorem within_any (x lo hi : Int) (w : World) : Calls Tryz.prog 109 #[.int .i64 x, .int .i64 lo, .int .i64 hi] w fun e w' => e = .returned (.bool (inB x lo hi)) ∧ w = w' := by
  by_cases h : lo ≤ x
  · have d1 : decide (lo ≤ x) = true := by simpa using h
    go_enter Tryz.func109, Tryz.ntmps109
    go_wp2
    go_ret
    exact ⟨by unfold inB; rw [d1]; simp, rfl⟩
  · have d1 : decide (lo ≤ x) = false := by simpa using h
    go_enter Tryz.func109, Tryz.ntmps109
    go_wp2
    go_ret
    exact ⟨by unfold inB; rw [d1]; simp, rfl⟩

theorem valid_eq (o : GOp) : validF o = if inB o.kind 0 2 = false then 40 else if inB o.client 1 64 = false then 41 else if inB o.seq 1 64 = false then 41 else
      if o.kind = 1 then (if inB (o.ch.toNat : Int) 32 126 = false then 42 else if inB o.pos 0 4095 = false then 43 else 0)
      else if (o.ch.toNat : Int) ≠ 0 then 42 else if o.kind = 0 then (if inB o.pos 0 0 = false then 43 else 0) else (if inB o.pos 0 4095 = false then 43 else 0) := by
  unfold validF posF inB
  simp only [Bool.and_eq_false_iff, decide_eq_false_iff_not]
  repeat' split
  all_goals first | rfl | omega | (exfalso; omega)

set_option maxHeartbeats 8000000 in
theorem valid_any (o : GOp) (w : World) : Calls Tryz.prog 108 #[opV o] w fun e w' => e = .returned (.int .i64 (validF o)) ∧ Fr None' w w' := by
  have hu := u8_lt o.ch
  have Hw := Lib.hid within_any
  have HV := Lib.hid (valid_eq o)
  unfold opV opCells
  generalize validF o = r at HV
  obtain ⟨k, p, ch, cl, sq⟩ := o
  dsimp only at *
  have e0 : IntKind.i64.wrap (ch.toNat : Int) = (ch.toNat : Int) := IntWalk.i64_in _ (by omega)
  generalize (ch.toNat : Int) = c at *
  cases h0 : inB k 0 2
  ·
    go_enter Tryz.func108, Tryz.ntmps108
    go_wp2_with (go_at_call 109; refine (Hw.out _ _ _ _).mono ?_; rintro e1 w1 ⟨rfl, rfl⟩)
    go_ret
    exact ⟨retI (by rw [HV.out]; clear HV Hw; (repeat' split) <;> first | rfl | (exfalso; simp_all; done) | (exfalso; simp_all; omega)), (Fr.refl _ _).alloc _⟩
  ·
    cases h1 : inB cl 1 64
    ·
      go_enter Tryz.func108, Tryz.ntmps108
      go_wp2_with (go_at_call 109; refine (Hw.out _ _ _ _).mono ?_; rintro e1 w1 ⟨rfl, rfl⟩)
      go_ret
      exact ⟨retI (by rw [HV.out]; clear HV Hw; (repeat' split) <;> first | rfl | (exfalso; simp_all; done) | (exfalso; simp_all; omega)), (Fr.refl _ _).alloc _⟩
    ·
      cases h2 : inB sq 1 64
      ·
        go_enter Tryz.func108, Tryz.ntmps108
        go_wp2_with (go_at_call 109; refine (Hw.out _ _ _ _).mono ?_; rintro e1 w1 ⟨rfl, rfl⟩)
        go_ret
        exact ⟨retI (by rw [HV.out]; clear HV Hw; (repeat' split) <;> first | rfl | (exfalso; simp_all; done) | (exfalso; simp_all; omega)), (Fr.refl _ _).alloc _⟩
      ·
        by_cases gk : k = 1
        ·
          have q1 : (k == 1) = true := by simpa using gk
          cases hc : inB c 32 126
          ·
            go_enter Tryz.func108, Tryz.ntmps108
            go_wp2_with (go_at_call 109; refine (Hw.out _ _ _ _).mono ?_; rintro e1 w1 ⟨rfl, rfl⟩)
            go_ret
            exact ⟨retI (by rw [HV.out]; clear HV Hw; (repeat' split) <;> first | rfl | (exfalso; simp_all; done) | (exfalso; simp_all; omega)), (Fr.refl _ _).alloc _⟩
          ·
            cases hp : inB p 0 4095
            ·
              have q0 : (k == 0) = false := by simp; omega
              go_enter Tryz.func108, Tryz.ntmps108
              go_wp2_with (go_at_call 109; refine (Hw.out _ _ _ _).mono ?_; rintro e1 w1 ⟨rfl, rfl⟩)
              go_ret
              exact ⟨retI (by rw [HV.out]; clear HV Hw; (repeat' split) <;> first | rfl | (exfalso; simp_all; done) | (exfalso; simp_all; omega)), (Fr.refl _ _).alloc _⟩
            ·
              have q0 : (k == 0) = false := by simp; omega
              go_enter Tryz.func108, Tryz.ntmps108
              go_wp2_with (go_at_call 109; refine (Hw.out _ _ _ _).mono ?_; rintro e1 w1 ⟨rfl, rfl⟩)
              go_ret
              exact ⟨retI (by rw [HV.out]; clear HV Hw; (repeat' split) <;> first | rfl | (exfalso; simp_all; done) | (exfalso; simp_all; omega)), (Fr.refl _ _).alloc _⟩
        ·
          have q1 : (k == 1) = false := by simpa using gk
          by_cases gc : c = 0
          ·
            have q2 : (c != 0) = false := by simpa using gc
            by_cases gz : k = 0
            ·
              have q0 : (k == 0) = true := by simpa using gz
              cases hp : inB p 0 0
              ·
                go_enter Tryz.func108, Tryz.ntmps108
                go_wp2_with (go_at_call 109; refine (Hw.out _ _ _ _).mono ?_; rintro e1 w1 ⟨rfl, rfl⟩)
                go_ret
                exact ⟨retI (by rw [HV.out]; clear HV Hw; (repeat' split) <;> first | rfl | (exfalso; simp_all; done) | (exfalso; simp_all; omega)), (Fr.refl _ _).alloc _⟩
              ·
                go_enter Tryz.func108, Tryz.ntmps108
                go_wp2_with (go_at_call 109; refine (Hw.out _ _ _ _).mono ?_; rintro e1 w1 ⟨rfl, rfl⟩)
                go_ret
                exact ⟨retI (by rw [HV.out]; clear HV Hw; (repeat' split) <;> first | rfl | (exfalso; simp_all; done) | (exfalso; simp_all; omega)), (Fr.refl _ _).alloc _⟩
            ·
              have q0 : (k == 0) = false := by simp; omega
              cases hp : inB p 0 4095
              ·
                go_enter Tryz.func108, Tryz.ntmps108
                go_wp2_with (go_at_call 109; refine (Hw.out _ _ _ _).mono ?_; rintro e1 w1 ⟨rfl, rfl⟩)
                go_ret
                exact ⟨retI (by rw [HV.out]; clear HV Hw; (repeat' split) <;> first | rfl | (exfalso; simp_all; done) | (exfalso; simp_all; omega)), (Fr.refl _ _).alloc _⟩
              ·
                go_enter Tryz.func108, Tryz.ntmps108
                go_wp2_with (go_at_call 109; refine (Hw.out _ _ _ _).mono ?_; rintro e1 w1 ⟨rfl, rfl⟩)
                go_ret
                exact ⟨retI (by rw [HV.out]; clear HV Hw; (repeat' split) <;> first | rfl | (exfalso; simp_all; done) | (exfalso; simp_all; omega)), (Fr.refl _ _).alloc _⟩
          ·
            have q2 : (c != 0) = true := by simpa using gc
            go_enter Tryz.func108, Tryz.ntmps108
            go_wp2_with (go_at_call 109; refine (Hw.out _ _ _ _).mono ?_; rintro e1 w1 ⟨rfl, rfl⟩)
            go_ret
            exact ⟨retI (by rw [HV.out]; clear HV Hw; (repeat' split) <;> first | rfl | (exfalso; simp_all; done) | (exfalso; simp_all; omega)), (Fr.refl _ _).alloc _⟩

theorem fits_eq (n : Int) (o : GOp) : fitsF n o = if validF o ≠ 0 then validF o else if inB n 0 4096 = false then 44 else
    if o.kind = 1 then (if n = 4096 then 44 else if n < o.pos then 43 else 0) else if o.kind = 2 then (if n ≤ o.pos then 43 else 0) else 0 := by
  unfold fitsF inB
  simp only [Bool.and_eq_false_iff, decide_eq_false_iff_not]
  repeat' split
  all_goals first | rfl | omega | (exfalso; omega)

set_option maxHeartbeats 8000000 in
theorem fits_any (n : Int) (o : GOp) (w : World) : Calls Tryz.prog 75 #[.int .i64 n, opV o] w fun e w' => e = .returned (.int .i64 (fitsF n o)) ∧ Fr None' w w' := by
  have HV := Lib.hid (fits_eq n o)
  have Hw := Lib.hid within_any
  have hv := valid_any o
  unfold opV opCells at *
  generalize fitsF n o = r at HV
  generalize validF o = r0 at *
  have Hv := Lib.hid hv
  clear hv
  have HF : Hid (∀ w2 : World, Fr None' (w.alloc (.cells #[.int .i64 o.kind, .int .i64 o.pos, .int .u8 (o.ch.toNat : Int), .int .i64 o.client, .int .i64 o.seq] 26)) w2 → Fr None' w w2) := Lib.hid fun w2 h => ((Fr.refl None' w).alloc _).trans' h
  have hcell : ∀ i, (w.alloc (.cells #[.int .i64 o.kind, .int .i64 o.pos, .int .u8 (o.ch.toNat : Int), .int .i64 o.client, .int .i64 o.seq] 26)).cell? ⟨w.heap.size, i, none⟩ = (#[.int .i64 o.kind, .int .i64 o.pos, .int .u8 (o.ch.toNat : Int), .int .i64 o.client, .int .i64 o.seq] : Array Value)[i]? := fun i => Blk.cell (Blk.new w 26 _) i
  have hlt : w.heap.size < (w.alloc (.cells #[.int .i64 o.kind, .int .i64 o.pos, .int .u8 (o.ch.toNat : Int), .int .i64 o.client, .int .i64 o.seq] 26)).heap.size := Blk.lt (Blk.new w 26 _)
  have Hcell := Lib.hid hcell
  have Hlt := Lib.hid hlt
  clear hcell hlt
  obtain ⟨k, p, ch, cl, sq⟩ := o
  dsimp only at *
  cases hn : inB n 0 4096
  · by_cases g0 : r0 = 0
    · have z0 : (r0 != 0) = false := by simpa using g0
      have G0 := Lib.hid g0
      clear g0
      go_enter Tryz.func75, Tryz.ntmps75
      go_wp2_with fail
      refine (Hv.out _).mono ?_
      rintro e1 w1 ⟨rfl, hf1⟩
      have HF1 := Lib.hid (HF.out _ hf1)
      have c0 : w1.cell? ⟨w.heap.size, 0, none⟩ = some (.int .i64 k) := ((fcell hf1).1 _ 0 Hlt.out).trans (Hcell.out 0)
      have c1 : w1.cell? ⟨w.heap.size, 1, none⟩ = some (.int .i64 p) := ((fcell hf1).1 _ 1 Hlt.out).trans (Hcell.out 1)
      clear hf1
      go_wp2_with (go_at_call 109; refine (Hw.out _ _ _ _).mono ?_; rintro e1 w1 ⟨rfl, rfl⟩)
      go_ret
      exact ⟨retI (by rw [HV.out]; have g0 := G0.out; clear HV Hw; (repeat' split) <;> first | rfl | (exfalso; simp_all; done) | omega), HF1.out⟩
    · have z0 : (r0 != 0) = true := by simpa using g0
      have G0 := Lib.hid g0
      clear g0
      go_enter Tryz.func75, Tryz.ntmps75
      go_wp2_with fail
      refine (Hv.out _).mono ?_
      rintro e1 w1 ⟨rfl, hf1⟩
      have HF1 := Lib.hid (HF.out _ hf1)
      have c0 : w1.cell? ⟨w.heap.size, 0, none⟩ = some (.int .i64 k) := ((fcell hf1).1 _ 0 Hlt.out).trans (Hcell.out 0)
      have c1 : w1.cell? ⟨w.heap.size, 1, none⟩ = some (.int .i64 p) := ((fcell hf1).1 _ 1 Hlt.out).trans (Hcell.out 1)
      clear hf1
      go_wp2_with (go_at_call 109; refine (Hw.out _ _ _ _).mono ?_; rintro e1 w1 ⟨rfl, rfl⟩)
      go_ret
      exact ⟨retI (by rw [HV.out]; have g0 := G0.out; clear HV Hw; (repeat' split) <;> first | rfl | (exfalso; simp_all; done) | omega), HF1.out⟩
  · by_cases g0 : r0 = 0
    · have z0 : (r0 != 0) = false := by simpa using g0
      by_cases g1 : k = 1
      · have z1 : (k == 1) = true := by simpa using g1
        have z4 : (k == 2) = false := by simp; omega
        by_cases g2 : n = 4096
        · have z2 : (n == 4096) = true := by simpa using g2
          have G0 := Lib.hid g0
          have G1 := Lib.hid g1
          have G2 := Lib.hid g2
          clear g0 g1 g2
          go_enter Tryz.func75, Tryz.ntmps75
          go_wp2_with fail
          refine (Hv.out _).mono ?_
          rintro e1 w1 ⟨rfl, hf1⟩
          have HF1 := Lib.hid (HF.out _ hf1)
          have c0 : w1.cell? ⟨w.heap.size, 0, none⟩ = some (.int .i64 k) := ((fcell hf1).1 _ 0 Hlt.out).trans (Hcell.out 0)
          have c1 : w1.cell? ⟨w.heap.size, 1, none⟩ = some (.int .i64 p) := ((fcell hf1).1 _ 1 Hlt.out).trans (Hcell.out 1)
          clear hf1
          go_wp2_with (go_at_call 109; refine (Hw.out _ _ _ _).mono ?_; rintro e1 w1 ⟨rfl, rfl⟩)
          go_ret
          exact ⟨retI (by rw [HV.out]; have g0 := G0.out; have g1 := G1.out; have g2 := G2.out; clear HV Hw; (repeat' split) <;> first | rfl | (exfalso; simp_all; done) | omega), HF1.out⟩
        · have z2 : (n == 4096) = false := by simpa using g2
          by_cases g3 : n < p
          · have z3 : decide (n < p) = true := by simpa using g3
            have G0 := Lib.hid g0
            have G1 := Lib.hid g1
            have G2 := Lib.hid g2
            have G3 := Lib.hid g3
            clear g0 g1 g2 g3
            go_enter Tryz.func75, Tryz.ntmps75
            go_wp2_with fail
            refine (Hv.out _).mono ?_
            rintro e1 w1 ⟨rfl, hf1⟩
            have HF1 := Lib.hid (HF.out _ hf1)
            have c0 : w1.cell? ⟨w.heap.size, 0, none⟩ = some (.int .i64 k) := ((fcell hf1).1 _ 0 Hlt.out).trans (Hcell.out 0)
            have c1 : w1.cell? ⟨w.heap.size, 1, none⟩ = some (.int .i64 p) := ((fcell hf1).1 _ 1 Hlt.out).trans (Hcell.out 1)
            clear hf1
            go_wp2_with (go_at_call 109; refine (Hw.out _ _ _ _).mono ?_; rintro e1 w1 ⟨rfl, rfl⟩)
            go_ret
            exact ⟨retI (by rw [HV.out]; have g0 := G0.out; have g1 := G1.out; have g2 := G2.out; have g3 := G3.out; clear HV Hw; (repeat' split) <;> first | rfl | (exfalso; simp_all; done) | omega), HF1.out⟩
          · have z3 : decide (n < p) = false := by simpa using g3
            have G0 := Lib.hid g0
            have G1 := Lib.hid g1
            have G2 := Lib.hid g2
            have G3 := Lib.hid g3
            clear g0 g1 g2 g3
            go_enter Tryz.func75, Tryz.ntmps75
            go_wp2_with fail
            refine (Hv.out _).mono ?_
            rintro e1 w1 ⟨rfl, hf1⟩
            have HF1 := Lib.hid (HF.out _ hf1)
            have c0 : w1.cell? ⟨w.heap.size, 0, none⟩ = some (.int .i64 k) := ((fcell hf1).1 _ 0 Hlt.out).trans (Hcell.out 0)
            have c1 : w1.cell? ⟨w.heap.size, 1, none⟩ = some (.int .i64 p) := ((fcell hf1).1 _ 1 Hlt.out).trans (Hcell.out 1)
            clear hf1
            go_wp2_with (go_at_call 109; refine (Hw.out _ _ _ _).mono ?_; rintro e1 w1 ⟨rfl, rfl⟩)
            go_ret
            exact ⟨retI (by rw [HV.out]; have g0 := G0.out; have g1 := G1.out; have g2 := G2.out; have g3 := G3.out; clear HV Hw; (repeat' split) <;> first | rfl | (exfalso; simp_all; done) | omega), HF1.out⟩
      · have z1 : (k == 1) = false := by simpa using g1
        by_cases g4 : k = 2
        · have z4 : (k == 2) = true := by simpa using g4
          by_cases g5 : n ≤ p
          · have z5 : decide (n ≤ p) = true := by simpa using g5
            have G0 := Lib.hid g0
            have G1 := Lib.hid g1
            have G4 := Lib.hid g4
            have G5 := Lib.hid g5
            clear g0 g1 g4 g5
            go_enter Tryz.func75, Tryz.ntmps75
            go_wp2_with fail
            refine (Hv.out _).mono ?_
            rintro e1 w1 ⟨rfl, hf1⟩
            have HF1 := Lib.hid (HF.out _ hf1)
            have c0 : w1.cell? ⟨w.heap.size, 0, none⟩ = some (.int .i64 k) := ((fcell hf1).1 _ 0 Hlt.out).trans (Hcell.out 0)
            have c1 : w1.cell? ⟨w.heap.size, 1, none⟩ = some (.int .i64 p) := ((fcell hf1).1 _ 1 Hlt.out).trans (Hcell.out 1)
            clear hf1
            go_wp2_with (go_at_call 109; refine (Hw.out _ _ _ _).mono ?_; rintro e1 w1 ⟨rfl, rfl⟩)
            go_ret
            exact ⟨retI (by rw [HV.out]; have g0 := G0.out; have g1 := G1.out; have g4 := G4.out; have g5 := G5.out; clear HV Hw; (repeat' split) <;> first | rfl | (exfalso; simp_all; done) | omega), HF1.out⟩
          · have z5 : decide (n ≤ p) = false := by simpa using g5
            have G0 := Lib.hid g0
            have G1 := Lib.hid g1
            have G4 := Lib.hid g4
            have G5 := Lib.hid g5
            clear g0 g1 g4 g5
            go_enter Tryz.func75, Tryz.ntmps75
            go_wp2_with fail
            refine (Hv.out _).mono ?_
            rintro e1 w1 ⟨rfl, hf1⟩
            have HF1 := Lib.hid (HF.out _ hf1)
            have c0 : w1.cell? ⟨w.heap.size, 0, none⟩ = some (.int .i64 k) := ((fcell hf1).1 _ 0 Hlt.out).trans (Hcell.out 0)
            have c1 : w1.cell? ⟨w.heap.size, 1, none⟩ = some (.int .i64 p) := ((fcell hf1).1 _ 1 Hlt.out).trans (Hcell.out 1)
            clear hf1
            go_wp2_with (go_at_call 109; refine (Hw.out _ _ _ _).mono ?_; rintro e1 w1 ⟨rfl, rfl⟩)
            go_ret
            exact ⟨retI (by rw [HV.out]; have g0 := G0.out; have g1 := G1.out; have g4 := G4.out; have g5 := G5.out; clear HV Hw; (repeat' split) <;> first | rfl | (exfalso; simp_all; done) | omega), HF1.out⟩
        · have z4 : (k == 2) = false := by simpa using g4
          have G0 := Lib.hid g0
          have G1 := Lib.hid g1
          have G4 := Lib.hid g4
          clear g0 g1 g4
          go_enter Tryz.func75, Tryz.ntmps75
          go_wp2_with fail
          refine (Hv.out _).mono ?_
          rintro e1 w1 ⟨rfl, hf1⟩
          have HF1 := Lib.hid (HF.out _ hf1)
          have c0 : w1.cell? ⟨w.heap.size, 0, none⟩ = some (.int .i64 k) := ((fcell hf1).1 _ 0 Hlt.out).trans (Hcell.out 0)
          have c1 : w1.cell? ⟨w.heap.size, 1, none⟩ = some (.int .i64 p) := ((fcell hf1).1 _ 1 Hlt.out).trans (Hcell.out 1)
          clear hf1
          go_wp2_with (go_at_call 109; refine (Hw.out _ _ _ _).mono ?_; rintro e1 w1 ⟨rfl, rfl⟩)
          go_ret
          exact ⟨retI (by rw [HV.out]; have g0 := G0.out; have g1 := G1.out; have g4 := G4.out; clear HV Hw; (repeat' split) <;> first | rfl | (exfalso; simp_all; done) | omega), HF1.out⟩
    · have z0 : (r0 != 0) = true := by simpa using g0
      have G0 := Lib.hid g0
      clear g0
      go_enter Tryz.func75, Tryz.ntmps75
      go_wp2_with fail
      refine (Hv.out _).mono ?_
      rintro e1 w1 ⟨rfl, hf1⟩
      have HF1 := Lib.hid (HF.out _ hf1)
      have c0 : w1.cell? ⟨w.heap.size, 0, none⟩ = some (.int .i64 k) := ((fcell hf1).1 _ 0 Hlt.out).trans (Hcell.out 0)
      have c1 : w1.cell? ⟨w.heap.size, 1, none⟩ = some (.int .i64 p) := ((fcell hf1).1 _ 1 Hlt.out).trans (Hcell.out 1)
      clear hf1
      go_wp2_with (go_at_call 109; refine (Hw.out _ _ _ _).mono ?_; rintro e1 w1 ⟨rfl, rfl⟩)
      go_ret
      exact ⟨retI (by rw [HV.out]; have g0 := G0.out; clear HV Hw; (repeat' split) <;> first | rfl | (exfalso; simp_all; done) | omega), HF1.out⟩
end Go.Proofs.YtodkhoclbhdihaaGreatDoor
