/-
  Contract of wire's pick: the fields of a message read one after the other.
-/
import Derived.Test.YtodkhoclbhdihaaDoorDec
import Derived.Deep.Cut
namespace Go.Proofs.YtodkhoclbhdihaaDoor
open Go.RowKit

theorem Reading.keep {w w' : World} {r b : Nat} {xs : List UInt8} {p : Nat} {S : Nat → Prop} (h : Reading w r b xs p) (hf : Fr S w w') (h1 : ¬ S r) (h2 : ¬ S b) : Reading w' r b xs p :=
  ⟨Blk.fr h.rd hf h1, h.ne, h.blk.fr hf h2⟩
abbrev GT : TypeId := 147
def getsA (r : Nat) : Array Value := #[.nilFunc, .func (.func 65) #[.pointer (some ⟨r, 0, none⟩)] #[], .func (.func 66) #[.pointer (some ⟨r, 0, none⟩)] #[]]
def zeroV : V := fun _ => 0
/-- What pick answers. -/
def PickPost (w : World) (res : Except Nat V) (e : Ending) (w' : World) : Prop :=
  match res with
  | .ok v => e = .returned (.tuple #[.agg (vcells v), .nilIface]) ∧ Fr None' w w'
  | .error p => ∃ g, e = .returned (.tuple #[.agg (vcells zeroV), errV g]) ∧ Fault w' g (p : Int) 63 ∧ Fr None' w w'

theorem fr_set {w : World} {g i : Nat} {u : Value} : Fr (Only g) w (w.setCell ⟨g, i, none⟩ u) := Fr.setCell (S := Only g) (Fr.refl _ _) (.inr (show g = g from rfl)) u
theorem setCell_same {w : World} {a : Addr} {v : Value} (h : w.cell? a = some v) : w.setCell a v = w := by
  unfold World.cell? at h
  split at h
  · rename_i c e f hb
    split at h
    · cases h
    · rename_i hs
      refine (congrArg (fun h => ({ w with heap := h } : World)) ?_).trans rfl
      apply Array.ext_getElem?
      intro i
      rw [Array.getElem?_modify]
      by_cases hi : a.block = i
      · subst hi
        rw [if_pos rfl, hb]
        simp only [Option.map_some, hs]
        congr 2
        apply Array.ext_getElem?
        intro j
        simp only [Bool.false_eq_true, if_false]
        rw [Array.getElem?_setIfInBounds]
        split
        · rename_i hj
          subst hj
          split
          · exact h.symm
          · rename_i hlt
            rw [Array.getElem?_eq_none (by omega)]
        · rfl
      · rw [if_neg hi]
  · cases h
theorem Vals.zcell {w : World} {g : Nat} (h : Vals w g zeroV) : ∀ i, w.cell? ⟨g, i, none⟩ = (#[.int .i64 0, .int .i64 0, .int .i64 0, .int .i64 0, .int .i64 0, .int .i64 0, .int .i64 0, .int .i64 0, .int .i64 0, .int .i64 0, .int .i64 0, .int .i64 0, .int .i64 0, .int .i64 0] : Array Value)[i]? := fun i => Blk.cell h i
theorem Vals.zset {w : World} {g : Nat} (h : Vals w g zeroV) : ∀ i, i < 14 → w.setCell ⟨g, i, none⟩ (.int .i64 0) = w := fun i hi => setCell_same (h.at_ i hi)

/-- The blocks that pick works with, all new and all different. -/
structure PickNe (w : World) (vg rg gg r b : Nat) : Prop where
  rb : r ≠ b
  gv : gg ≠ vg
  gr : gg ≠ rg
  grd : gg ≠ r
  gb : gg ≠ b
  rv : r ≠ vg
  bv : b ≠ vg
  rr : r ≠ rg
  br : b ≠ rg
  vr : vg ≠ rg
  nv : w.heap.size ≤ vg
  nr : w.heap.size ≤ rg
  nrd : w.heap.size ≤ r
structure PickInv (w : World) (vg rg gg r b : Nat) (xs : List UInt8) (v : V) (p : Nat) (wr : World) : Prop where
  vals : Vals wr vg v
  res : Vals wr rg zeroV
  gets : Blk wr gg GT (getsA r)
  rd : Reading wr r b xs p
  fr : Fr None' w wr
theorem PickInv.read {w wr wr' : World} {vg rg gg r b : Nat} {xs : List UInt8} {v : V} {p p' : Nat} (N : PickNe w vg rg gg r b) (h : PickInv w vg rg gg r b xs v p wr) (hf : Fr (Only r) wr wr') (hr : Reading wr' r b xs p') : PickInv w vg rg gg r b xs v p' wr' :=
  ⟨h.vals.fr hf (fun e => N.rv e.symm), h.res.fr hf (fun e => N.rr e.symm), h.gets.fr hf (fun e => N.grd e), hr, h.fr.trans hf fun i hi hs => by have := N.nrd; unfold Only at hs; omega⟩
theorem PickInv.put {w wr : World} {vg rg gg r b : Nat} {xs : List UInt8} {v : V} {p : Nat} (N : PickNe w vg rg gg r b) (h : PickInv w vg rg gg r b xs v p wr) (f : Nat) (hf : f < 14) (x : Int) : PickInv w vg rg gg r b xs (setV v f x) p (wr.setCell ⟨vg, f, none⟩ (.int .i64 x)) := by
  have hk : Fr (Only vg) wr (wr.setCell ⟨vg, f, none⟩ (.int .i64 x)) := fr_set
  exact ⟨h.vals.set_ f hf x, h.res.fr hk (fun e => N.vr e.symm), h.gets.fr hk N.gv, h.rd.keep hk N.rv N.bv, h.fr.setCell (.inl N.nv) _⟩
theorem PickInv.frn {w wr wr' : World} {vg rg gg r b : Nat} {xs : List UInt8} {v : V} {p : Nat} (h : PickInv w vg rg gg r b xs v p wr) (hf : Fr None' wr wr') : PickInv w vg rg gg r b xs v p wr' :=
  ⟨h.vals.fr hf fun h => h, h.res.fr hf fun h => h, h.gets.fr hf fun h => h, h.rd.keep hf (fun h => h) fun h => h, h.fr.trans' hf⟩

theorem lenF_le {sh : List Nat} {k f : Nat} (h : sh[k]? = some f) : lenF (sh.take k) + sz f ≤ lenF sh := by
  have h1 := lenF_take h
  have : lenF sh = lenF (sh.take (k + 1)) + lenF (sh.drop (k + 1)) := by
    unfold lenF
    rw [← List.sum_append, ← List.map_append, List.take_append_drop]
  omega
theorem drop_cons {sh : List Nat} {k f : Nat} (h : sh[k]? = some f) : sh.drop k = f :: sh.drop (k + 1) := by
  obtain ⟨hk, rfl⟩ := List.getElem?_eq_some_iff.1 h
  exact List.drop_eq_getElem_cons hk

set_option maxHeartbeats 4000000 in
theorem pick_any (A A2 : Option Addr) (n c n2 c2 : Nat) (xs : List UInt8) (sh : List Nat) (own : Bool) (w : World) (hS : SizeG w) (ha : RB w A n xs) (hs : RN w A2 n2 sh) (hm : ∀ f ∈ sh, f < 14) (hl : n = 1 + lenF sh) (hn : n ≤ 100) (hn2 : n2 ≤ 100) :
    Calls Tryd.prog 38 #[.slice A n c, .slice A2 n2 c2, .bool own] w (PickPost w (pickF xs own sh 1 (setV zeroV 0 (((xs[0]?).getD 0).toNat : Int)))) := by
  have hlen := ha.len1
  rw [List.length_map] at hlen
  have HL := Lib.hid hlen
  have HL2 := Lib.hid hs.len
  have HN := Lib.hid hl
  clear hlen hl
  have hv0 : Vals ((w.alloc (.cells (vcells zeroV) 85)).alloc (.cells (vcells zeroV) 85)) (w.heap.size + 1) zeroV := by
    unfold Vals
    have := Blk.new (w.alloc (.cells (vcells zeroV) 85)) 85 (vcells zeroV)
    simpa using this
  have hr0 : Vals ((w.alloc (.cells (vcells zeroV) 85)).alloc (.cells (vcells zeroV) 85)) w.heap.size zeroV := (Blk.new w 85 (vcells zeroV)).alloc _
  have hf0 : Fr None' w ((w.alloc (.cells (vcells zeroV) 85)).alloc (.cells (vcells zeroV) 85)) := ((Fr.refl _ _).alloc _).alloc _
  have hs0 : ((w.alloc (.cells (vcells zeroV) 85)).alloc (.cells (vcells zeroV) 85)).heap.size = w.heap.size + 2 := by simp
  go_enter Tryd.func38, Tryd.ntmps38
  go_wp2_with fail
  show Calls _ _ _ ((w.alloc (.cells (vcells zeroV) 85)).alloc (.cells (vcells zeroV) 85)) _
  generalize ((w.alloc (.cells (vcells zeroV) 85)).alloc (.cells (vcells zeroV) 85)) = W0 at *
  refine (newReader_any A n c xs W0 (ha.frn hf0) (by omega)).mono ?_
  rintro e w1 ⟨r, b, rfl, hrW, hbW, hrb, hrd, hbb, hf1⟩
  have hR1 : Reading w1 r b xs 0 := ⟨by rw [HL.out]; exact hrd, hrb, hbb⟩
  have hv1 := hv0.fr hf1 fun h => h
  have hr1 := hr0.fr hf1 fun h => h
  have hf01 := hf0.trans' hf1
  have hx1 : Fr None' w1 (w1.alloc (.cells (getsA r) GT)) := (Fr.refl _ _).alloc _
  have N : PickNe w (w.heap.size + 1) w.heap.size w1.heap.size r b := by
    have h1 := hf1.size
    have h2 := Blk.lt hrd
    have h3 := hbb.lt
    exact ⟨hrb, by omega, by omega, by omega, by omega, by omega, by omega, by omega, by omega, by omega, by omega, by omega, by omega⟩
  have I2 : PickInv w (w.heap.size + 1) w.heap.size w1.heap.size r b xs zeroV 0 (w1.alloc (.cells (getsA r) GT)) :=
    ⟨hv1.fr hx1 fun h => h, hr1.fr hx1 fun h => h, Blk.new _ _ _, hR1.keep hx1 (fun h => h) (fun h => h), hf01.trans' hx1⟩
  have J2 := Lib.hid I2
  have HNe := Lib.hid N
  clear hv0 hr0 hf0 hs0 hrd hbb hf1 hR1 hv1 hr1 hf01 hx1 hrW hbW I2 N hrb
  have hgets : getsA r = #[.nilFunc, .func (.func 65) #[.pointer (some ⟨r, 0, none⟩)] #[], .func (.func 66) #[.pointer (some ⟨r, 0, none⟩)] #[]] := rfl
  rw [hgets] at J2
  clear hgets
  go_wp2_with fail
  generalize hw2 : w1.alloc _ = w2 at *
  generalize hgg : w1.heap.size = gg at *
  generalize hvg : w.heap.size + 1 = vg at *
  generalize hrg : w.heap.size = rg at *
  clear hw2 hgg hvg hrg
  obtain ⟨u0, hu0⟩ : ∃ u, xs[0]? = some u := ⟨_, List.getElem?_eq_getElem (by have := HL.out; have := HN.out; omega)⟩
  have HU0 : Hid ((((xs[0]?).getD 0).toNat : Int) = (u0.toNat : Int)) := by
    show (((xs[0]?).getD 0).toNat : Int) = (u0.toNat : Int)
    rw [hu0]
    rfl
  refine (u8_any r b 0 xs u0 w2 J2.out.rd hu0 (by have := HL.out; omega)).mono ?_
  rintro e w3 ⟨rfl, hR3, hf3⟩
  have J3 := Lib.hid (J2.out.read HNe.out hf3 hR3)
  have c0 := J3.out.vals.at_ 0 (by omega)
  have f0 := Blk.frozen J3.out.vals 0
  have J4 := Lib.hid (J3.out.put HNe.out 0 (by omega) (u0.toNat : Int))
  clear hR3 hf3 J2
  go_wp2
  have J5 := J4
  generalize w3.setCell _ _ = w4 at *
  go_loopw [27] (fun i wr => ∃ k p v, k ≤ n2 ∧ i = .int .i64 (k : Nat) ∧ p = 1 + lenF (sh.take k) ∧ PickInv w vg rg gg r b xs v p wr ∧ pickF xs own sh 1 (setV zeroV 0 (u0.toNat : Int)) = pickF xs own (sh.drop k) p v) (fun i _ => n2 - (intOf i).toNat)
  case atStart => exact ⟨0, 1, _, Nat.zero_le _, rfl, rfl, J5.out, rfl⟩
  case round =>
    clear J5 c0 f0 J3 J4
    obtain ⟨k, p, v, hk, rfl, hp, hI, hq⟩ := hrel
    have HPK := Lib.hid hp
    clear hp
    have J := Lib.hid hI
    have HQ := Lib.hid hq
    clear hq hI
    by_cases hlt : k < n2
    · obtain ⟨b2, off, f, rfl, hbb, hx, hc⟩ := RN.at_ (hs.frn J.out.fr) hlt
      have hfl : f < 14 := hm f (List.mem_of_getElem? hx)
      have hcs := hS.fr J.out.fr (fun h => h) f hfl
      have hfi : (f : Int) < 14 := by omega
      have p1 := J.out.gets.cell 1
      have p2 := J.out.gets.cell 2
      unfold getsA at p1 p2
      have hle : p + sz f ≤ n := by rw [HPK.out]; have := lenF_le hx; have := HN.out; omega
      have HX := Lib.hid hx
      clear hx
      have hps : p < 1000 := by omega
      have Hat := Lib.hid (rdAt_any r b 0 xs.length xs.length p wr J.out.rd.rd)
      obtain hsz | hsz := sz_12 f hfl
      · skip
        obtain ⟨u, hu⟩ : ∃ u, xs[p]? = some u := ⟨_, List.getElem?_eq_getElem (by have := HL.out; omega)⟩
        have hu8 := u8_lt u
        have GET : Hid (getN xs p (sz f) = (u.toNat : Int)) := by
          show getN xs p (sz f) = (u.toNat : Int)
          rw [hsz, getN, if_neg (by omega), hu]
          rfl
        have Hrd := Lib.hid (u8_any r b _ xs u wr J.out.rd hu (by have := HL.out; omega))

        have HSZ := Lib.hid hsz
        rw [hsz] at hcs
        clear hsz hu
        go_wp2_with (first | (go_at_call 67; refine Hat.out.mono ?_; rintro e w' ⟨rfl, rfl⟩))
        refine Hrd.out.mono ?_
        rintro e w5 ⟨rfl, hR5, hf5⟩
        have J5 := Lib.hid (J.out.read HNe.out hf5 hR5)
        have cf := J5.out.vals.at_ f hfl
        have ff := Blk.frozen J5.out.vals f
        have J6 := Lib.hid (J5.out.put HNe.out f hfl ((u.toNat : Int)))
        clear hR5 hf5 hcs hc p1 p2
        go_upto_if 41 with (fail)
        clear cf ff
        generalize w5.setCell _ _ = w6 at *
        cases own with
        | true =>
          have c2 := J6.out.vals.at_ 2 (by omega)
          cases hmv : mayB f (setV v f ((u.toNat : Int))) ((setV v f ((u.toNat : Int))) 2) with
          | true =>
            have HNX : Hid (pickF xs true sh 1 (setV zeroV 0 (u0.toNat : Int)) = pickF xs true (sh.drop (k + 1)) (p + sz f) (setV v f ((u.toNat : Int)))) := by
              show pickF xs true sh 1 (setV zeroV 0 (u0.toNat : Int)) = _
              rw [HQ.out, drop_cons HX.out, pickF, GET.out]
              simp only [if_true]
              rw [hmv, if_pos rfl]
            have Hm := may_any vg f (setV v f ((u.toNat : Int))) ((setV v f ((u.toNat : Int))) 2) w6 J6.out.vals hfl
            rw [hmv] at Hm
            have HM := Lib.hid Hm
            clear Hm hmv
            go_wp2_with (first | (go_at_call 30; refine HM.out.mono ?_; rintro e w7 ⟨rfl, rfl⟩))
            go_roundw
            case rel => exact ⟨k + 1, p + sz f, _, by omega, by go_num, by rw [lenF_take HX.out, HPK.out]; omega, by rw [HSZ.out]; exact J6.out, HNX.out⟩
            case measure => simp [intOf]; omega
          | false =>
            have HNX : Hid (pickF xs true sh 1 (setV zeroV 0 (u0.toNat : Int)) = .error p) := by
              show pickF xs true sh 1 (setV zeroV 0 (u0.toNat : Int)) = _
              rw [HQ.out, drop_cons HX.out, pickF, GET.out]
              simp only [if_true]
              rw [hmv, if_neg (by simp)]
            have Hm := may_any vg f (setV v f ((u.toNat : Int))) ((setV v f ((u.toNat : Int))) 2) w6 J6.out.vals hfl
            rw [hmv] at Hm
            have HM := Lib.hid Hm
            clear Hm hmv
            go_wp2_with (first | (go_at_call 30; refine HM.out.mono ?_; rintro e w7 ⟨rfl, rfl⟩))
            refine (wrap_any _ _ _).mono ?_
            rintro e w8 ⟨rfl, hF, rfl⟩
            have hres := J6.out.res.fr (S := None') ((Fr.refl _ _).alloc (.cells (faultCells (p : Int) 63) 99)) (fun h => h)
            have hcz := hres.zcell
            have hfz := fun i => Blk.frozen hres i
            have hsm := hres.zset
            have HF8 := Lib.hid (J6.out.fr.alloc (.cells (faultCells (p : Int) 63) 99))
            have HF := Lib.hid hF
            clear hF hres
            generalize w6.alloc _ = w8 at *
            go_wp2
            refine bodyPost_ret (v := .tuple #[.agg (vcells zeroV), errV w6.heap.size]) (by simp [results, Tryd.results38, go_sem, hcz]; rfl) rfl ?_
            unfold PickPost
            rw [HU0.out, HNX.out]
            exact ⟨_, rfl, HF.out, HF8.out⟩
        | false =>
          cases hmv : mayB f (setV v f ((u.toNat : Int))) (0) with
          | true =>
            have HNX : Hid (pickF xs false sh 1 (setV zeroV 0 (u0.toNat : Int)) = pickF xs false (sh.drop (k + 1)) (p + sz f) (setV v f ((u.toNat : Int)))) := by
              show pickF xs false sh 1 (setV zeroV 0 (u0.toNat : Int)) = _
              rw [HQ.out, drop_cons HX.out, pickF, GET.out]
              simp only [Bool.false_eq_true, if_false]
              rw [hmv, if_pos rfl]
            have Hm := may_any vg f (setV v f ((u.toNat : Int))) (0) w6 J6.out.vals hfl
            rw [hmv] at Hm
            have HM := Lib.hid Hm
            clear Hm hmv
            go_wp2_with (first | (go_at_call 30; refine HM.out.mono ?_; rintro e w7 ⟨rfl, rfl⟩))
            go_roundw
            case rel => exact ⟨k + 1, p + sz f, _, by omega, by go_num, by rw [lenF_take HX.out, HPK.out]; omega, by rw [HSZ.out]; exact J6.out, HNX.out⟩
            case measure => simp [intOf]; omega
          | false =>
            have HNX : Hid (pickF xs false sh 1 (setV zeroV 0 (u0.toNat : Int)) = .error p) := by
              show pickF xs false sh 1 (setV zeroV 0 (u0.toNat : Int)) = _
              rw [HQ.out, drop_cons HX.out, pickF, GET.out]
              simp only [Bool.false_eq_true, if_false]
              rw [hmv, if_neg (by simp)]
            have Hm := may_any vg f (setV v f ((u.toNat : Int))) (0) w6 J6.out.vals hfl
            rw [hmv] at Hm
            have HM := Lib.hid Hm
            clear Hm hmv
            go_wp2_with (first | (go_at_call 30; refine HM.out.mono ?_; rintro e w7 ⟨rfl, rfl⟩))
            refine (wrap_any _ _ _).mono ?_
            rintro e w8 ⟨rfl, hF, rfl⟩
            have hres := J6.out.res.fr (S := None') ((Fr.refl _ _).alloc (.cells (faultCells (p : Int) 63) 99)) (fun h => h)
            have hcz := hres.zcell
            have hfz := fun i => Blk.frozen hres i
            have hsm := hres.zset
            have HF8 := Lib.hid (J6.out.fr.alloc (.cells (faultCells (p : Int) 63) 99))
            have HF := Lib.hid hF
            clear hF hres
            generalize w6.alloc _ = w8 at *
            go_wp2
            refine bodyPost_ret (v := .tuple #[.agg (vcells zeroV), errV w6.heap.size]) (by simp [results, Tryd.results38, go_sem, hcz]; rfl) rfl ?_
            unfold PickPost
            rw [HU0.out, HNX.out]
            exact ⟨_, rfl, HF.out, HF8.out⟩
      · skip
        obtain ⟨u, hu⟩ : ∃ u, xs[p]? = some u := ⟨_, List.getElem?_eq_getElem (by have := HL.out; omega)⟩
        obtain ⟨u', hu'⟩ : ∃ u, xs[p + 1]? = some u := ⟨_, List.getElem?_eq_getElem (by have := HL.out; omega)⟩
        have hu8 := u8_lt u
        have hu8' := u8_lt u'
        have GET : Hid (getN xs p (sz f) = (u.toNat : Int) * 256 + (u'.toNat : Int)) := by
          show getN xs p (sz f) = (u.toNat : Int) * 256 + (u'.toNat : Int)
          rw [hsz, getN, if_pos rfl, hu, hu']
          rfl
        have Hrd := Lib.hid (u16_any r b _ xs u u' wr J.out.rd hu hu' (by have := HL.out; omega))

        have HSZ := Lib.hid hsz
        rw [hsz] at hcs
        clear hsz hu hu'
        go_wp2_with (first | (go_at_call 67; refine Hat.out.mono ?_; rintro e w' ⟨rfl, rfl⟩))
        refine Hrd.out.mono ?_
        rintro e w5 ⟨rfl, hR5, hf5⟩
        have J5 := Lib.hid (J.out.read HNe.out hf5 hR5)
        have cf := J5.out.vals.at_ f hfl
        have ff := Blk.frozen J5.out.vals f
        have J6 := Lib.hid (J5.out.put HNe.out f hfl ((u.toNat : Int) * 256 + (u'.toNat : Int)))
        clear hR5 hf5 hcs hc p1 p2
        go_upto_if 41 with (fail)
        clear cf ff
        generalize w5.setCell _ _ = w6 at *
        cases own with
        | true =>
          have c2 := J6.out.vals.at_ 2 (by omega)
          cases hmv : mayB f (setV v f ((u.toNat : Int) * 256 + (u'.toNat : Int))) ((setV v f ((u.toNat : Int) * 256 + (u'.toNat : Int))) 2) with
          | true =>
            have HNX : Hid (pickF xs true sh 1 (setV zeroV 0 (u0.toNat : Int)) = pickF xs true (sh.drop (k + 1)) (p + sz f) (setV v f ((u.toNat : Int) * 256 + (u'.toNat : Int)))) := by
              show pickF xs true sh 1 (setV zeroV 0 (u0.toNat : Int)) = _
              rw [HQ.out, drop_cons HX.out, pickF, GET.out]
              simp only [if_true]
              rw [hmv, if_pos rfl]
            have Hm := may_any vg f (setV v f ((u.toNat : Int) * 256 + (u'.toNat : Int))) ((setV v f ((u.toNat : Int) * 256 + (u'.toNat : Int))) 2) w6 J6.out.vals hfl
            rw [hmv] at Hm
            have HM := Lib.hid Hm
            clear Hm hmv
            go_wp2_with (first | (go_at_call 30; refine HM.out.mono ?_; rintro e w7 ⟨rfl, rfl⟩))
            go_roundw
            case rel => exact ⟨k + 1, p + sz f, _, by omega, by go_num, by rw [lenF_take HX.out, HPK.out]; omega, by rw [HSZ.out]; exact J6.out, HNX.out⟩
            case measure => simp [intOf]; omega
          | false =>
            have HNX : Hid (pickF xs true sh 1 (setV zeroV 0 (u0.toNat : Int)) = .error p) := by
              show pickF xs true sh 1 (setV zeroV 0 (u0.toNat : Int)) = _
              rw [HQ.out, drop_cons HX.out, pickF, GET.out]
              simp only [if_true]
              rw [hmv, if_neg (by simp)]
            have Hm := may_any vg f (setV v f ((u.toNat : Int) * 256 + (u'.toNat : Int))) ((setV v f ((u.toNat : Int) * 256 + (u'.toNat : Int))) 2) w6 J6.out.vals hfl
            rw [hmv] at Hm
            have HM := Lib.hid Hm
            clear Hm hmv
            go_wp2_with (first | (go_at_call 30; refine HM.out.mono ?_; rintro e w7 ⟨rfl, rfl⟩))
            refine (wrap_any _ _ _).mono ?_
            rintro e w8 ⟨rfl, hF, rfl⟩
            have hres := J6.out.res.fr (S := None') ((Fr.refl _ _).alloc (.cells (faultCells (p : Int) 63) 99)) (fun h => h)
            have hcz := hres.zcell
            have hfz := fun i => Blk.frozen hres i
            have hsm := hres.zset
            have HF8 := Lib.hid (J6.out.fr.alloc (.cells (faultCells (p : Int) 63) 99))
            have HF := Lib.hid hF
            clear hF hres
            generalize w6.alloc _ = w8 at *
            go_wp2
            refine bodyPost_ret (v := .tuple #[.agg (vcells zeroV), errV w6.heap.size]) (by simp [results, Tryd.results38, go_sem, hcz]; rfl) rfl ?_
            unfold PickPost
            rw [HU0.out, HNX.out]
            exact ⟨_, rfl, HF.out, HF8.out⟩
        | false =>
          cases hmv : mayB f (setV v f ((u.toNat : Int) * 256 + (u'.toNat : Int))) (0) with
          | true =>
            have HNX : Hid (pickF xs false sh 1 (setV zeroV 0 (u0.toNat : Int)) = pickF xs false (sh.drop (k + 1)) (p + sz f) (setV v f ((u.toNat : Int) * 256 + (u'.toNat : Int)))) := by
              show pickF xs false sh 1 (setV zeroV 0 (u0.toNat : Int)) = _
              rw [HQ.out, drop_cons HX.out, pickF, GET.out]
              simp only [Bool.false_eq_true, if_false]
              rw [hmv, if_pos rfl]
            have Hm := may_any vg f (setV v f ((u.toNat : Int) * 256 + (u'.toNat : Int))) (0) w6 J6.out.vals hfl
            rw [hmv] at Hm
            have HM := Lib.hid Hm
            clear Hm hmv
            go_wp2_with (first | (go_at_call 30; refine HM.out.mono ?_; rintro e w7 ⟨rfl, rfl⟩))
            go_roundw
            case rel => exact ⟨k + 1, p + sz f, _, by omega, by go_num, by rw [lenF_take HX.out, HPK.out]; omega, by rw [HSZ.out]; exact J6.out, HNX.out⟩
            case measure => simp [intOf]; omega
          | false =>
            have HNX : Hid (pickF xs false sh 1 (setV zeroV 0 (u0.toNat : Int)) = .error p) := by
              show pickF xs false sh 1 (setV zeroV 0 (u0.toNat : Int)) = _
              rw [HQ.out, drop_cons HX.out, pickF, GET.out]
              simp only [Bool.false_eq_true, if_false]
              rw [hmv, if_neg (by simp)]
            have Hm := may_any vg f (setV v f ((u.toNat : Int) * 256 + (u'.toNat : Int))) (0) w6 J6.out.vals hfl
            rw [hmv] at Hm
            have HM := Lib.hid Hm
            clear Hm hmv
            go_wp2_with (first | (go_at_call 30; refine HM.out.mono ?_; rintro e w7 ⟨rfl, rfl⟩))
            refine (wrap_any _ _ _).mono ?_
            rintro e w8 ⟨rfl, hF, rfl⟩
            have hres := J6.out.res.fr (S := None') ((Fr.refl _ _).alloc (.cells (faultCells (p : Int) 63) 99)) (fun h => h)
            have hcz := hres.zcell
            have hfz := fun i => Blk.frozen hres i
            have hsm := hres.zset
            have HF8 := Lib.hid (J6.out.fr.alloc (.cells (faultCells (p : Int) 63) 99))
            have HF := Lib.hid hF
            clear hF hres
            generalize w6.alloc _ = w8 at *
            go_wp2
            refine bodyPost_ret (v := .tuple #[.agg (vcells zeroV), errV w6.heap.size]) (by simp [results, Tryd.results38, go_sem, hcz]; rfl) rfl ?_
            unfold PickPost
            rw [HU0.out, HNX.out]
            exact ⟨_, rfl, HF.out, HF8.out⟩
    · have HNX : Hid (pickF xs own sh 1 (setV zeroV 0 (u0.toNat : Int)) = .ok v) := by
        show pickF xs own sh 1 (setV zeroV 0 (u0.toNat : Int)) = .ok v
        rw [HQ.out, List.drop_of_length_le (by have := HL2.out; omega)]
        rfl
      have cg : ∀ i, wr.cell? ⟨vg, i, none⟩ = (#[.int .i64 (v 0), .int .i64 (v 1), .int .i64 (v 2), .int .i64 (v 3), .int .i64 (v 4), .int .i64 (v 5), .int .i64 (v 6), .int .i64 (v 7), .int .i64 (v 8), .int .i64 (v 9), .int .i64 (v 10), .int .i64 (v 11), .int .i64 (v 12), .int .i64 (v 13)] : Array Value)[i]? := Blk.cell J.out.vals
      have cr := J.out.res.zcell
      have fr := fun i => Blk.frozen J.out.res i
      go_wp2
      refine bodyPost_ret (v := .tuple #[.agg (vcells v), .nilIface]) (by simp [results, Tryd.results38, go_sem, cr]; rfl) rfl ?_
      unfold PickPost
      rw [HU0.out, HNX.out]
      refine ⟨rfl, ?_⟩
      iterate 14 refine Fr.setCell ?_ (.inl HNe.out.nr) _
      exact J.out.fr
end Go.Proofs.YtodkhoclbhdihaaDoor
