/-
  The numbers at which the library's sort of integers lies in this program.
-/
import Derived.Shelf.SortM.Plain
import Derived.Shelf.SortM.SortNone
import Derived.Test.YtodkhoclbhdihaaGreatDoorProg
import Derived.Test.YtodkhoclbhdihaaGreatDoorZ9
import Derived.Test.YtodkhoclbhdihaaGreatDoorZ11
import Derived.Laws.BytesString
namespace Go.Proofs.YtodkhoclbhdihaaGreatDoor
open Go.RowKit Go.Sort Go.Shelf

def sortRen : Go.Shelf.Ren := ⟨fun | 5 => 48 | 8 => 77 | 7 => 76 | 19 => 119 | 20 => 120 | 10 => 110 | 11 => 111 | 12 => 112 | 13 => 113 | 14 => 114 | 15 => 115 | 16 => 116 | 17 => 117 | 18 => 118 | 30 => 143 | 31 => 144 | 32 => 145 | 33 => 146 | 34 => 147 | 35 => 148 | 40 => 165 | n => n, fun | 23 => 22 | 25 => 3 | 3 => 3 | 32 => 154 | 22 => 22 | 0 => 0 | 44 => 210 | 46 => 212 | 4 => 4 | 36 => 203 | 35 => 202 | 41 => 180 | 5 => 5 | 9 => 9 | 53 => 246 | 57 => 250 | 63 => 266 | 64 => 163 | n => n, fun | n => n⟩
theorem sortLays : Go.Proofs.SlLaysM.n5 Tryz.prog sortRen := {
  mixed := by kernel_rfl
  f5 := ⟨Tryz.f48.name, by decide, Tryz.func48.trans (congrArg some (by kernel_rfl))⟩
  f7 := ⟨Tryz.f76.name, by decide, Tryz.func76.trans (congrArg some (by kernel_rfl))⟩
  f8 := Tryz.func77.trans (congrArg some (by kernel_rfl))
  f10 := ⟨Tryz.f110.name, by decide, Tryz.func110.trans (congrArg some (by kernel_rfl))⟩
  f11 := ⟨Tryz.f111.name, by decide, Tryz.func111.trans (congrArg some (by kernel_rfl))⟩
  f12 := ⟨Tryz.f112.name, by decide, Tryz.func112.trans (congrArg some (by kernel_rfl))⟩
  f13 := ⟨Tryz.f113.name, by decide, Tryz.func113.trans (congrArg some (by kernel_rfl))⟩
  f14 := ⟨Tryz.f114.name, by decide, Tryz.func114.trans (congrArg some (by kernel_rfl))⟩
  f15 := ⟨Tryz.f115.name, by decide, Tryz.func115.trans (congrArg some (by kernel_rfl))⟩
  f16 := ⟨Tryz.f116.name, by decide, Tryz.func116.trans (congrArg some (by kernel_rfl))⟩
  f17 := ⟨Tryz.f117.name, by decide, Tryz.func117.trans (congrArg some (by kernel_rfl))⟩
  f18 := ⟨Tryz.f118.name, by decide, Tryz.func118.trans (congrArg some (by kernel_rfl))⟩
  f19 := Tryz.func119.trans (congrArg some (by kernel_rfl))
  f20 := Tryz.func120.trans (congrArg some (by kernel_rfl))
  f30 := ⟨Tryz.f143.name, by decide, Tryz.func143.trans (congrArg some (by kernel_rfl))⟩
  f31 := Tryz.func144.trans (congrArg some (by kernel_rfl))
  f32 := Tryz.func145.trans (congrArg some (by kernel_rfl))
  f33 := ⟨Tryz.f146.name, by decide, Tryz.func146.trans (congrArg some (by kernel_rfl))⟩
  f34 := ⟨Tryz.f147.name, by decide, Tryz.func147.trans (congrArg some (by kernel_rfl))⟩
  f35 := ⟨Tryz.f148.name, by decide, Tryz.func148.trans (congrArg some (by kernel_rfl))⟩
  f40 := ⟨Tryz.f165.name, by decide, Tryz.func165.trans (congrArg some (by kernel_rfl))⟩
  t0 := Tryz.underlying0
  a0 := Tryz.isAgg0
  z0 := Tryz.sizeOf0
  v0 := Tryz.zeroValue0
  t3 := Tryz.underlying3
  a3 := Tryz.isAgg3
  z3 := Tryz.sizeOf3
  v3 := Tryz.zeroValue3
  t4 := Tryz.underlying4
  a4 := Tryz.isAgg4
  z4 := Tryz.sizeOf4
  v4 := Tryz.zeroValue4
  t5 := Tryz.underlying5
  a5 := Tryz.isAgg5
  z5 := Tryz.sizeOf5
  v5 := Tryz.zeroValue5
  t9 := Tryz.underlying9
  a9 := Tryz.isAgg9
  z9 := Tryz.sizeOf9
  v9 := Tryz.zeroValue9
  t22 := Tryz.underlying22
  a22 := Tryz.isAgg22
  z22 := Tryz.sizeOf22
  v22 := Tryz.zeroValue22
  t23 := Tryz.underlying22
  a23 := Tryz.isAgg22
  z23 := Tryz.sizeOf22
  v23 := Tryz.zeroValue22
  t25 := Tryz.underlying3
  a25 := Tryz.isAgg3
  z25 := Tryz.sizeOf3
  v25 := Tryz.zeroValue3
  t32 := Tryz.underlying154
  a32 := Tryz.isAgg154
  z32 := Tryz.sizeOf154
  v32 := Tryz.zeroValue154
  t35 := Tryz.underlying202
  a35 := Tryz.isAgg202
  z35 := Tryz.sizeOf202
  v35 := Tryz.zeroValue202
  t36 := Tryz.underlying203
  a36 := Tryz.isAgg203
  z36 := Tryz.sizeOf203
  v36 := Tryz.zeroValue203
  t41 := Tryz.underlying180
  a41 := Tryz.isAgg180
  z41 := Tryz.sizeOf180
  v41 := Tryz.zeroValue180
  t44 := Tryz.underlying210
  a44 := Tryz.isAgg210
  z44 := Tryz.sizeOf210
  v44 := Tryz.zeroValue210
  t46 := Tryz.underlying212
  a46 := Tryz.isAgg212
  z46 := Tryz.sizeOf212
  v46 := Tryz.zeroValue212
  t53 := Tryz.underlying246
  a53 := Tryz.isAgg246
  z53 := Tryz.sizeOf246
  v53 := Tryz.zeroValue246
  t57 := Tryz.underlying250
  a57 := Tryz.isAgg250
  z57 := Tryz.sizeOf250
  v57 := Tryz.zeroValue250
  t63 := Tryz.underlying266
  a63 := Tryz.isAgg266
  z63 := Tryz.sizeOf266
  v63 := Tryz.zeroValue266
  t64 := Tryz.underlying163
  a64 := Tryz.isAgg163
  z64 := Tryz.sizeOf163
  v64 := Tryz.zeroValue163 }
end Go.Proofs.YtodkhoclbhdihaaGreatDoor

/-
  Contract of tap's Known.
-/
namespace Go.Proofs.YtodkhoclbhdihaaGreatDoor
open Go.RowKit Go.Sort Go.Shelf

theorem sorted_unique : ∀ (l l' : List Int), l.Perm l' → l.Pairwise (· ≤ ·) → l'.Pairwise (· ≤ ·) → l = l'
  | [], l', h, _, _ => h.nil_eq.symm ▸ rfl
  | a :: l, [], h, _, _ => by have := h.length_eq; simp at this
  | a :: l, b :: l', h, h1, h2 => by
    obtain ⟨h1a, h1b⟩ := List.pairwise_cons.1 h1
    obtain ⟨h2a, h2b⟩ := List.pairwise_cons.1 h2
    have hab : a = b := by
      have ha : a ∈ b :: l' := h.mem_iff.1 (List.mem_cons_self ..)
      have hb : b ∈ a :: l := h.mem_iff.2 (List.mem_cons_self ..)
      rcases List.mem_cons.1 ha with e | ha
      · exact e
      · rcases List.mem_cons.1 hb with e | hb
        · exact e.symm
        · have := h2a a ha
          have := h1a b hb
          omega
    subst hab
    rw [sorted_unique l l' h.cons_inv h1b h2b]
def sortI (l : List Int) : List Int := l.mergeSort fun x y => decide (x ≤ y)
theorem sortI_pair (l : List Int) : (sortI l).Pairwise (· ≤ ·) := by
  have := List.pairwise_mergeSort (le := fun x y : Int => decide (x ≤ y)) (by intro a b c h1 h2; simp at *; omega) (by intro a b; simp; omega) l
  exact this.imp fun h => by simpa using h
theorem sortI_perm {l l' : List Int} (h : l.Perm l') : sortI l = sortI l' :=
  sorted_unique _ _ ((List.mergeSort_perm l _).trans (h.trans (List.mergeSort_perm l' _).symm)) (sortI_pair l) (sortI_pair l')
theorem sortI_len (l : List Int) : (sortI l).length = l.length := (List.mergeSort_perm l _).length_eq
def knownF (recs : List (Int × GOp)) : List Int := sortI (recs.map (·.1))

/-- What Known answers. -/
def KnownPost (w : World) (recs : List (Int × GOp)) (ev : Ending) (w' : World) : Prop :=
  ∃ A c, ev = .returned (.slice A recs.length c) ∧ recs.length ≤ c ∧ RI w' A recs.length (knownF recs) ∧ (∀ k, Foot A recs.length k → w.heap.size ≤ k) ∧ Fr None' w w'

/-- The sort of a list that is new since world W. -/
theorem sort_any (W w : World) (v : Value) (zs : List Int) (hf : Fr None' W w) (hown : w.ownsRow W.heap.size INT 1 v zs.length (zs.map vi)) (hn : zs.length ≤ 1000000) :
    ∃ A c, v = .slice A zs.length c ∧ Calls Tryz.prog 48 #[.slice A zs.length c] w fun e w' => e = .returned (.tuple #[]) ∧ zs.length ≤ c ∧ RI w' A zs.length (sortI zs) ∧ (∀ k, Foot A zs.length k → W.heap.size ≤ k) ∧ Fr None' W w' := by
  obtain ⟨A, c, rfl, hc, hr, hft⟩ := own_reads hown
  refine ⟨A, c, rfl, ?_⟩
  by_cases h0 : zs.length = 0
  · have hz : zs = [] := List.eq_nil_of_length_eq_zero h0
    subst hz
    have h := AnyM.slices_Sort_int_none sortLays A c w
    exact h.mono fun e w' ⟨h1, h2⟩ => ⟨h1, hc, by rw [h2, show sortI [] = [] by simp [sortI]]; exact Reads.nil, hft, by rw [h2]; exact hf⟩
  · rcases hown.2 with ⟨_, _⟩ | ⟨g, cap, cur, h, hb, hg, hcc, _, hcs, htake⟩
    · exact absurd ‹zs.length = 0› h0
    · cases h
      have hH : Holds (Value.int .i64) w g 0 zs.toArray := fun j hj => by
        have hj' : j < zs.length := by simpa using hj
        obtain ⟨b, off, hA, hlt, hcell⟩ := hr.2 (by omega)
        cases hA
        refine ⟨?_, Blk.frozen (show Blk w g INT cur from hg) _⟩
        have := hcell j (vi zs[j]) (by rw [List.getElem?_map, List.getElem?_eq_getElem hj']; rfl)
        rw [this]
        simp [vi, hj']
      have h := AnyM.slices_Sort_int sortLays g 0 c zs w hH (lt_of_heap hg) (by omega)
      refine h.mono fun e w' ⟨h1, n, os, h2⟩ => ⟨h1, hc, ?_, hft, ?_⟩
      · have hs : (sortI zs).toArray.size = zs.toArray.size := by simp [sortI_len]
        have hg2 : (putRow (Value.int .i64) (Sort.ahead w n) g 0 (sortI zs).toArray).heap.size = w.heap.size := by simp [putRow, mapBlock, Sort.ahead]
        refine ⟨by simp [sortI_len], fun _ => ⟨g, 0, rfl, ?_, fun j u hu => ?_⟩⟩
        · rw [h2]
          have := lt_of_heap hg
          simp only [grow, Array.size_append]
          have e : (putRow (Value.int .i64) (Sort.ahead w n) g 0 (zs.mergeSort fun x y => decide (x ≤ y)).toArray).heap.size = w.heap.size := hg2
          omega
        · have hj : j < (sortI zs).length := by
            have := (List.getElem?_eq_some_iff.1 hu).1
            simpa using this
          rw [h2, cell?_grow _ _ _ (show g < _ from by have e : (putRow (Value.int .i64) (Sort.ahead w n) g 0 (zs.mergeSort fun x y => decide (x ≤ y)).toArray).heap.size = w.heap.size := hg2; rw [e]; exact lt_of_heap hg)]
          have := cell?_putRow (Value.int .i64) (Sort.ahead w n) g 0 zs.toArray (sortI zs).toArray (fun j hj => hH j hj) hs j (by simpa using hj)
          refine this.trans ?_
          rw [List.getElem?_map, List.getElem?_eq_getElem hj] at hu
          cases hu
          simp [vi, hj]
      · have hg' := lt_of_heap hg
        rw [h2]
        refine ⟨hf.os, hf.tape, hf.output, ?_, fun k hk _ => ?_⟩
        · have : w.heap.size ≤ (grow (putRow (Value.int .i64) (Sort.ahead w n) g 0 (zs.mergeSort fun x y => decide (x ≤ y)).toArray) os).heap.size := by simp [grow, putRow, mapBlock, Sort.ahead]
          exact Nat.le_trans hf.size this
        · have hkw : k < w.heap.size := Nat.lt_of_lt_of_le hk hf.size
          have e1 := heap_grow_old (putRow (Value.int .i64) (Sort.ahead w n) g 0 (zs.mergeSort fun x y => decide (x ≤ y)).toArray) os (k := k) (by simp [putRow, mapBlock, Sort.ahead]; exact hkw)
          refine e1.trans (Eq.trans ?_ (hf.block k hk fun h => h))
          have hne : ¬ g = k := by omega
          simp [putRow, mapBlock, Sort.ahead, Array.getElem?_modify, hne]

/-- How far the range has come. -/
def Ranged (w : World) (r : Nat) (recs : List (Int × GOp)) (l : Value) (wr : World) : Prop :=
  ∃ out rest, Ranging vi opV wr w.heap.size r recs rest ∧ (out ++ rest).Perm recs ∧ wr.ownsRow w.heap.size INT 1 l out.length ((out.map (·.1)).map vi) ∧ Fr None' w wr
def lenV : Value → Nat | .slice _ n _ => n | _ => 0
theorem int_info : (Tryz.prog.info? INT).map (fun i => (i.zero, i.size, i.bytes)) = some (some (.int .i64 0), 1, 8) := by kernel_rfl

set_option maxHeartbeats 16000000 in
theorem known_any (a r v e : Nat) (T : GTap) (w : World) (hT : TapAt w a r v e T) (hlen : T.records.length ≤ 100000) :
    Calls Tryz.prog 18 #[.pointer (some ⟨a, 0, none⟩)] w fun ev w' => KnownPost w T.records ev w' := by
  have z0 := hT.cells
  obtain ⟨hst, hRg⟩ := Ranging.start hT.recs rec_under
  have hrlt := hT.recs.lt
  have H0 : Hid (Ranged w r T.records (.slice none 0 0) (w.alloc (.mapIter (some r) T.records.length #[] T.records.length))) := Lib.hid ⟨[], T.records, hRg, List.Perm.refl _, World.ownsRow_nil _ _ _ _, (Fr.refl _ _).alloc _⟩
  clear hRg hT
  go_enter Tryz.func18, Tryz.ntmps18
  go_wp2
  clear hst z0
  go_loopw [3] (fun l wr => Ranged w r T.records l wr) (fun l _ => T.records.length - lenV l)
  case atStart => exact H0.out
  case round =>
    clear H0
    obtain ⟨out, rest, hR, hperm, hown, hf⟩ := hrel
    have hplen := hperm.length_eq
    rw [List.length_append] at hplen
    rcases hR.next (P := Tryz.prog) 0 (by omega) with ⟨rfl, hrun⟩ | ⟨p, rest', w', hp, hrun, hR', hf', hsz, hent⟩
    · have hol : out.length = T.records.length := by simpa using hplen
      rw [List.append_nil] at hperm
      have hown' := hown
      rw [show out.length = (out.map (·.1)).length by simp] at hown'
      obtain ⟨A, c, rfl, hs⟩ := sort_any w wr _ (out.map (·.1)) hf hown' (by rw [List.length_map]; omega)
      rw [List.length_map, hol, sortI_perm (hperm.map (·.1))] at hs
      rw [List.length_map, hol] at *
      have Hs := Lib.hid hs
      clear hs hown hown' hR hperm hf hplen
      go_wp2_with (go_at_call 48; refine Hs.out.mono ?_; rintro e1 w2 ⟨rfl, hc, hri, hft, hfr⟩)
      go_ret
      exact ⟨A, c, rfl, hc, hri, hft, hfr⟩
    · obtain ⟨k, o⟩ := p
      have hle : out.length + 1 ≤ T.records.length := by
        have := hp.length_eq
        rw [List.length_cons] at this
        omega
      have hwl : w.heap.size ≤ w'.heap.size := Nat.le_trans hf.size hf'.size
      have hgi : ∀ j, (fun j => Value.ownBlock _ = some j) j → ¬ (j = w.heap.size) := fun j hj e => by
        obtain ⟨cs, hcs⟩ := own_block hown hj
        obtain ⟨_, seen, hit, _⟩ := hR
        rw [e, hit] at hcs
        cases hcs
      have hown1 := own_fr hown hf' hgi
      have hx : Fr None' w' (w'.alloc (.cells #[.int .i64 k] INT)) := (Fr.refl _ _).alloc _
      obtain ⟨v2, w2, r2, o2, f2, at2⟩ := app_any (P := Tryz.prog) (t := 22) (ty := 22) (e := INT) (size := 1) (bytes := 8) Tryz.underlying22 int_info rfl (by omega) (own_fr hown1 hx fun _ _ h => h) (one_reads w' INT [.int .i64 k]) (c := 1) (by simp [Value.oneCell']) (by omega) (by omega) (by simp; omega)
      have HNew : Hid (Ranged w r T.records v2 w2) := by
        refine ⟨out ++ [(k, o)], rest', ?_, ?_, ?_, ?_⟩
        · refine (hR'.fr hx (fun h => h) fun h => h).fr f2 (fun hj => hgi _ hj rfl) fun hj => ?_
          have := (hown.lt _ hj).1
          omega
        · rw [List.append_assoc]
          exact ((List.Perm.append_left out hp.symm)).trans hperm
        · have e1 : (out ++ [(k, o)]).length = out.length + 1 := by simp
          have e2 : ((out ++ [(k, o)]).map (·.1)).map vi = (out.map (·.1)).map vi ++ [.int .i64 k] := by simp [vi]
          rw [e1, e2]
          exact o2
        · refine ((hf.trans hf' fun i hi hs => ?_).alloc _).trans f2 fun i hi hs => ?_
          · unfold Only at hs; omega
          · have := (hown.lt _ hs).1
            omega
      have hlv : lenV v2 = out.length + 1 := by obtain ⟨A2, c2, e, _⟩ := own_reads o2; rw [e]; rfl
      have hlv1 : ∀ x n xs, wr.ownsRow w.heap.size INT 1 x n xs → lenV x = n := fun x n xs h => by obtain ⟨A2, c2, e, _⟩ := own_reads h; rw [e]; rfl
      have hl1 := hlv1 _ _ _ hown
      have HL := Lib.hid (And.intro hlv (And.intro hl1 hle))
      unfold vi at hrun hent
      dsimp only at hrun hent
      clear hR hR' hf hf' hown hown1 hgi hx o2 f2 at2 hp hperm hplen hlv hl1 hlv1 hsz
      unfold opV at hrun hent
      go_wp2_with (at_builtin; refine wpList_app rfl _ _ _ rfl rfl rfl r2 ?_)
      go_round
      case rel => exact HNew.out
      case measure => have := HL.out; omega
end Go.Proofs.YtodkhoclbhdihaaGreatDoor

/-
  Contracts of Records, Doc, and of the statements' own small functions: ints, lines, copied, into, first.
-/
namespace Go.Proofs.YtodkhoclbhdihaaGreatDoor
open Go.RowKit

theorem records_any (a r v e : Nat) (T : GTap) (w : World) (hT : TapAt w a r v e T) (hlen : T.records.length ≤ 100000) :
    Calls Tryz.prog 16 #[.pointer (some ⟨a, 0, none⟩)] w fun ev w' => ∃ vl, ev = .returned vl ∧ w'.ownsRow w.heap.size OPT 5 vl (standF T.records).1.length (ops (standF T.records).1) ∧ Fr None' w w' := by
  have Hs := Lib.hid (stand_any a r v e T w hT hlen)
  clear hT hlen
  go_enter Tryz.func16, Tryz.ntmps16
  go_wp2_with (go_at_call 47; refine Hs.out.mono ?_; rintro e1 w1 ⟨vl, vt, rfl, h1, h2, h3⟩)
  go_ret
  exact ⟨vl, rfl, h1, h3⟩
theorem doc_any (a r v e : Nat) (T : GTap) (w : World) (hT : TapAt w a r v e T) (hlen : T.records.length ≤ 100000) :
    Calls Tryz.prog 20 #[.pointer (some ⟨a, 0, none⟩)] w fun ev w' => ∃ vt, ev = .returned vt ∧ w'.ownsRow w.heap.size ET 3 vt (standF T.records).2.length (els (standF T.records).2) ∧ Fr None' w w' := by
  have Hs := Lib.hid (stand_any a r v e T w hT hlen)
  clear hT hlen
  go_enter Tryz.func20, Tryz.ntmps20
  go_wp2_with (go_at_call 47; refine Hs.out.mono ?_; rintro e1 w1 ⟨vl, vt, rfl, h1, h2, h3⟩)
  go_ret
  exact ⟨vt, rfl, h2, h3⟩

theorem tmod64 (n : Int) : (-64 < n.tmod 64 ∧ n.tmod 64 < 64) ∧ (if n.tmod 64 < 0 then n.tmod 64 + 64 else n.tmod 64) = n % 64 := by
  rcases Int.le_total 0 n with h | h
  · have e := Int.tmod_eq_emod_of_nonneg (b := 64) h
    rw [e]
    constructor
    · omega
    · rw [if_neg (by omega)]
  · have e := Int.tmod_eq_emod_of_nonneg (b := 64) (show 0 ≤ -n by omega)
    rw [Int.neg_tmod] at e
    have e' : n.tmod 64 = -((-n) % 64) := by omega
    rw [e']
    constructor
    · omega
    · split <;> omega
theorem into_any (n : Int) (w : World) : Calls Tryz.prog 12 #[.int .i64 n, .int .i64 64] w fun e w' => e = .returned (.int .i64 (n % 64)) ∧ w = w' := by
  obtain ⟨hb, hq⟩ := tmod64 n
  have e1 : IntKind.i64.wrap (n.tmod 64) = n.tmod 64 := IntWalk.i64_in _ (by omega)
  have e2 : IntKind.i64.wrap (n.tmod 64 + 64) = n.tmod 64 + 64 := IntWalk.i64_in _ (by omega)
  have HQ := Lib.hid hq
  clear hq
  by_cases ht : n.tmod 64 < 0
  · have d1 : decide (n.tmod 64 < 0) = true := by simpa using ht
    have HT := Lib.hid ht
    clear ht
    go_enter Tryz.func12, Tryz.ntmps12
    go_wp2
    go_ret
    exact ⟨retI (by have := HQ.out; rw [if_pos HT.out] at this; exact this), rfl⟩
  · have d1 : decide (n.tmod 64 < 0) = false := by simpa using ht
    have HT := Lib.hid (show ¬ n.tmod 64 < 0 from ht)
    clear ht
    go_enter Tryz.func12, Tryz.ntmps12
    go_wp2
    go_ret
    exact ⟨retI (by have := HQ.out; rw [if_neg (by have := HT.out; omega)] at this; exact this), rfl⟩

def firstOp : GOp := ⟨1, 0, 97, 1, 1⟩
def firstM : GMsg := ⟨5, 1, 1, 0, 0, 1, 0, 1, 0, firstOp⟩
theorem first_any (w : World) : Calls Tryz.prog 11 #[] w fun e w' => e = .returned (msgV firstM) ∧ Fr None' w w' := by
  go_enter Tryz.func11, Tryz.ntmps11
  go_wp2
  exact bodyPost_ret (v := msgV firstM) (by simp [results, Tryz.results11, go_sem, msgV, msgCells, opCells, firstM, firstOp]) rfl ⟨rfl, (Fr.refl _ _).alloc _⟩

set_option maxHeartbeats 2000000 in
theorem ints_any (A B : Option Addr) (n m c d : Nat) (xs ys : List Int) (w : World) (ha : RI w A n xs) (hb : RI w B m ys) (hn : n ≤ 1000000) (hm : m ≤ 1000000) :
    Calls Tryz.prog 17 #[.slice A n c, .slice B m d] w fun e w' => e = .returned (.bool (decide (xs = ys))) ∧ Fr None' w w' := by
  have hl1 : xs.length = n := by have := ha.len1; rwa [List.length_map] at this
  have hl2 : ys.length = m := by have := hb.len1; rwa [List.length_map] at this
  by_cases hnm : n = m
  · subst hnm
    have q0 : ((n : Int) != (n : Int)) = false := by simp
    go_enter Tryz.func17, Tryz.ntmps17
    go_wp2
    go_loopw [5] (fun i wr => ∃ k : Nat, k ≤ n ∧ i = .int .i64 (k : Int) ∧ xs.take k = ys.take k ∧ Fr None' w wr) (fun i _ => n - (intOf i).toNat)
    case atStart => exact ⟨0, Nat.zero_le _, rfl, rfl, Fr.refl _ _⟩
    case round =>
      obtain ⟨k, hk, rfl, hpre, hf⟩ := hrel
      by_cases hlt : k < n
      · obtain ⟨b1, o1, u1, rfl, hb1, hx1, hc1⟩ := (ha.frn hf).at1 hlt
        obtain ⟨b2, o2, u2, rfl, hb2, hx2, hc2⟩ := (hb.frn hf).at1 hlt
        rw [List.getElem?_map, Option.map_eq_some_iff] at hx1 hx2
        obtain ⟨x1, hx1, rfl⟩ := hx1
        obtain ⟨x2, hx2, rfl⟩ := hx2
        unfold vi at hc1 hc2
        have HF := Lib.hid hf
        have HX1 := Lib.hid hx1
        have HX2 := Lib.hid hx2
        have HP := Lib.hid hpre
        clear hf hx1 hx2 hpre
        by_cases hq : x1 = x2
        · have q1 : (x1 != x2) = false := by simpa using hq
          have HQ := Lib.hid hq
          clear hq
          go_wp2
          go_quiet (fail)
          go_wp2
          go_round
          case rel => exact ⟨k + 1, by omega, by go_num, by rw [List.take_add_one, List.take_add_one, HX1.out, HX2.out, HP.out, HQ.out], HF.out.drewN _⟩
          case measure => simp [intOf]; omega
        · have q1 : (x1 != x2) = true := by simpa using hq
          have HQ := Lib.hid hq
          clear hq
          go_wp2
          go_quiet (fail)
          go_wp2
          go_ret
          refine ⟨retB ?_, HF.out.drewN _⟩
          symm
          rw [decide_eq_false]
          intro e
          have := HX1.out
          rw [e, HX2.out] at this
          exact HQ.out (Option.some.inj this).symm
      · have HF := Lib.hid hf
        have HP := Lib.hid hpre
        clear hf hpre
        go_wp2
        go_ret
        refine ⟨retB ?_, HF.out⟩
        symm
        rw [decide_eq_true]
        have := HP.out
        rwa [List.take_of_length_le (by omega), List.take_of_length_le (by omega)] at this
  · have q0 : ((n : Int) != (m : Int)) = true := by simp; omega
    go_enter Tryz.func17, Tryz.ntmps17
    go_wp2
    go_ret
    exact ⟨retB (by symm; rw [decide_eq_false]; intro e; subst e; omega), Fr.refl _ _⟩

/-! ### lists of operations -/
theorem ops_drop (d : List GOp) (k : Nat) : (ops d).drop (k * 5) = ops (d.drop k) := by
  unfold ops
  induction d generalizing k with
  | nil => simp
  | cons a d ih =>
    cases k with
    | zero => simp
    | succ k =>
      rw [List.flatMap_cons, List.drop_succ_cons, show (k + 1) * 5 = (opCells a).length + k * 5 by simp [opCells]; omega, List.drop_length_add_append, ih]
theorem op_at {w : World} {A : Option Addr} {n k : Nat} {l : List GOp} (h : Reads w 5 A n (ops l)) (hk : k < n) : ∃ b off o, A = some ⟨b, off, none⟩ ∧ b < w.heap.size ∧ l[k]? = some o ∧
    w.cell? ⟨b, off + k * 5, none⟩ = some (.int .i64 o.kind) ∧ w.cell? ⟨b, off + k * 5 + 1, none⟩ = some (.int .i64 o.pos) ∧ w.cell? ⟨b, off + k * 5 + 2, none⟩ = some (.int .u8 (o.ch.toNat : Int)) ∧
    w.cell? ⟨b, off + k * 5 + 3, none⟩ = some (.int .i64 o.client) ∧ w.cell? ⟨b, off + k * 5 + 4, none⟩ = some (.int .i64 o.seq) := by
  obtain ⟨b, off, rfl, hb, hc⟩ := h.2 (by omega)
  have hl : l.length = n := by have := h.1; rw [ops_len] at this; omega
  have hg : l[k]? = some l[k] := List.getElem?_eq_getElem (by omega)
  have hd : l.drop k = l[k] :: l.drop (k + 1) := List.drop_eq_getElem_cons (by omega)
  have hcell : ∀ j, j < 5 → w.cell? ⟨b, off + k * 5 + j, none⟩ = (opCells l[k])[j]? := fun j hj => by
    have hlen : (opCells l[k]).length = 5 := rfl
    have e : (ops l)[k * 5 + j]? = (opCells l[k])[j]? := by
      rw [← List.getElem?_drop, ops_drop, hd]
      show ((opCells l[k]) ++ ops (l.drop (k + 1)))[j]? = _
      rw [List.getElem?_append_left (by omega)]
    have hx : (opCells l[k])[j]? = some (opCells l[k])[j] := List.getElem?_eq_getElem (by omega)
    rw [hx] at e ⊢
    have := hc _ _ e
    rwa [← Nat.add_assoc] at this
  exact ⟨b, off, l[k], rfl, hb, hg, hcell 0 (by omega), hcell 1 (by omega), hcell 2 (by omega), hcell 3 (by omega), hcell 4 (by omega)⟩

set_option maxHeartbeats 2000000 in
theorem lines_any (A B : Option Addr) (n m c d : Nat) (xs ys : List GOp) (w : World) (ha : Reads w 5 A n (ops xs)) (hb : Reads w 5 B m (ops ys)) (hn : n ≤ 1000000) (hm : m ≤ 1000000) :
    Calls Tryz.prog 15 #[.slice A n c, .slice B m d] w fun e w' => e = .returned (.bool (decide (xs = ys))) ∧ Fr None' w w' := by
  have hl1 : xs.length = n := by have := ha.1; rw [ops_len] at this; omega
  have hl2 : ys.length = m := by have := hb.1; rw [ops_len] at this; omega
  by_cases hnm : n = m
  · subst hnm
    have q0 : ((n : Int) != (n : Int)) = false := by simp
    go_enter Tryz.func15, Tryz.ntmps15
    go_wp2
    go_loopw [5] (fun i wr => ∃ k : Nat, k ≤ n ∧ i = .int .i64 (k : Int) ∧ xs.take k = ys.take k ∧ Fr None' w wr) (fun i _ => n - (intOf i).toNat)
    case atStart => exact ⟨0, Nat.zero_le _, rfl, rfl, Fr.refl _ _⟩
    case round =>
      obtain ⟨k, hk, rfl, hpre, hf⟩ := hrel
      by_cases hlt : k < n
      · obtain ⟨b1, o1, x1, rfl, hb1, hx1, c10, c11, c12, c13, c14⟩ := op_at (ha.frn hf) hlt
        obtain ⟨b2, o2, x2, rfl, hb2, hx2, c20, c21, c22, c23, c24⟩ := op_at (hb.frn hf) hlt
        have hneq := fun w => neq_o5 x1 x2 w
        unfold o5 at hneq
        have HF := Lib.hid hf
        have HX1 := Lib.hid hx1
        have HX2 := Lib.hid hx2
        have HP := Lib.hid hpre
        clear hf hx1 hx2 hpre
        by_cases hq : x1 = x2
        · rw [decide_eq_true hq, Bool.not_true] at hneq
          have HQ := Lib.hid hq
          clear hq
          go_wp2
          go_quiet (fail)
          go_wp2
          go_round
          case rel => exact ⟨k + 1, by omega, by go_num, by rw [List.take_add_one, List.take_add_one, HX1.out, HX2.out, HP.out, HQ.out], HF.out.drewN _⟩
          case measure => simp [intOf]; omega
        · rw [decide_eq_false hq, Bool.not_false] at hneq
          have HQ := Lib.hid hq
          clear hq
          go_wp2
          go_quiet (fail)
          go_wp2
          go_ret
          refine ⟨retB ?_, HF.out.drewN _⟩
          symm
          rw [decide_eq_false]
          intro e
          have := HX1.out
          rw [e, HX2.out] at this
          exact HQ.out (Option.some.inj this).symm
      · have HF := Lib.hid hf
        have HP := Lib.hid hpre
        clear hf hpre
        go_wp2
        go_ret
        refine ⟨retB ?_, HF.out⟩
        symm
        rw [decide_eq_true]
        have := HP.out
        rwa [List.take_of_length_le (by omega), List.take_of_length_le (by omega)] at this
  · have q0 : ((n : Int) != (m : Int)) = true := by simp; omega
    go_enter Tryz.func15, Tryz.ntmps15
    go_wp2
    go_ret
    exact ⟨retB (by symm; rw [decide_eq_false]; intro e; subst e; omega), Fr.refl _ _⟩
end Go.Proofs.YtodkhoclbhdihaaGreatDoor

/-
  Contracts of copied, Text, sent, seen.
-/
namespace Go.Proofs.YtodkhoclbhdihaaGreatDoor
open Go.RowKit

theorem splice_step (xs : List UInt8) (n k : Nat) (u : UInt8) (hk : k < n) (hu : xs[k]? = some u) (hl : xs.length = n) :
    (((xs.take k).map bv ++ zeros (n - k)).toArray).setIfInBounds k (bv u) = ((xs.take (k + 1)).map bv ++ zeros (n - (k + 1))).toArray := by
  apply Array.ext'
  simp only [Array.toList_setIfInBounds]
  have hz : zeros (n - k) = .int .u8 0 :: zeros (n - (k + 1)) := by
    unfold zeros
    rw [show n - k = (n - (k + 1)) + 1 by omega, List.replicate_succ]
  have hlen : ((xs.take k).map bv).length = k := by rw [List.length_map, List.length_take]; omega
  rw [hz, List.set_append_right _ _ (by omega), hlen, Nat.sub_self, List.set_cons_zero, List.take_add_one, hu]
  simp
set_option maxHeartbeats 2000000 in
theorem copied_any (A : Option Addr) (n c : Nat) (xs : List UInt8) (w : World) (ha : RB w A n xs) (hn : n ≤ 1000000) :
    Calls Tryz.prog 36 #[.slice A n c] w fun e w' => ∃ r, e = .returned r ∧ NewB w w' r xs ∧ Fr None' w w' := by
  have hl : xs.length = n := by have := ha.len1; rwa [List.length_map] at this
  have hmk := run_mk w n n rfl (by omega)
  obtain ⟨Z, hZ⟩ : ∃ Z, Z = zeros n := ⟨_, rfl⟩
  rw [← hZ] at hmk
  have H0 : Hid (Blk (w.alloc (.cells Z.toArray 5)) w.heap.size 5 ((xs.take 0).map bv ++ zeros (n - 0)).toArray ∧ Fr None' w (w.alloc (.cells Z.toArray 5))) := Lib.hid ⟨by subst hZ; simpa using Blk.new w 5 (zeros n).toArray, (Fr.refl _ _).alloc _⟩
  clear hZ
  go_enter Tryz.func36, Tryz.ntmps36
  go_wp2
  go_loopw [4] (fun i wr => ∃ k : Nat, k ≤ n ∧ i = .int .i64 (k : Int) ∧ Blk wr w.heap.size 5 ((xs.take k).map bv ++ zeros (n - k)).toArray ∧ Fr None' w wr) (fun i _ => n - (intOf i).toNat)
  case atStart => exact ⟨0, Nat.zero_le _, rfl, H0.out.1, H0.out.2⟩
  case round =>
    clear H0 hmk
    obtain ⟨k, hk, rfl, hb, hf⟩ := hrel
    by_cases hlt : k < n
    · obtain ⟨b, off, u, rfl, hbb, hx, hc⟩ := (ha.frn hf).at1 hlt
      rw [List.getElem?_map, Option.map_eq_some_iff] at hx
      obtain ⟨u', hu, rfl⟩ := hx
      have hc0 : ∃ v, wr.cell? ⟨w.heap.size, k, none⟩ = some v := by
        rw [hb.cell k]
        exact ⟨_, Array.getElem?_eq_getElem (by simp [zeros]; omega)⟩
      obtain ⟨v0, hv0⟩ := hc0
      have hfz := hb.frozen k
      have HN := Lib.hid (splice_step xs n k u' hlt hu hl)
      have HB := Lib.hid hb
      have HF := Lib.hid hf
      unfold bv at hc
      clear hb hf hu
      go_wp2
      go_round
      case rel => exact ⟨k + 1, by omega, by go_num, by have := HB.out.set_ k (bv u'); rw [HN.out] at this; exact this, HF.out.setCell (.inl (Nat.le_refl _)) _⟩
      case measure => simp [intOf]; omega
    · have HB := Lib.hid hb
      have HF := Lib.hid hf
      clear hb hf
      have hkn : k = n := by omega
      subst hkn
      go_wp2
      go_ret
      refine ⟨.slice (some ⟨w.heap.size, 0, none⟩) k k, rfl, ⟨w.heap.size, Nat.le_refl _, by rw [hl], ?_⟩, HF.out⟩
      have := HB.out
      rw [List.take_of_length_le (by omega), Nat.sub_self] at this
      simpa [zeros] using this

/-! ### the text -/
theorem el_at {w : World} {A : Option Addr} {n k : Nat} {l : List GElem} (h : Reads w 3 A n (els l)) (hk : k < n) : ∃ b off o, A = some ⟨b, off, none⟩ ∧ b < w.heap.size ∧ l[k]? = some o ∧
    w.cell? ⟨b, off + k * 3, none⟩ = some (.int .u8 (o.ch.toNat : Int)) ∧ w.cell? ⟨b, off + k * 3 + 1, none⟩ = some (.int .i64 o.client) ∧ w.cell? ⟨b, off + k * 3 + 2, none⟩ = some (.int .i64 o.seq) := by
  obtain ⟨b, off, rfl, hb, hc⟩ := h.2 (by omega)
  have hl : l.length = n := by have := h.1; rw [els_len] at this; omega
  have hg : l[k]? = some l[k] := List.getElem?_eq_getElem (by omega)
  have hd : l.drop k = l[k] :: l.drop (k + 1) := List.drop_eq_getElem_cons (by omega)
  have hcell : ∀ j, j < 3 → w.cell? ⟨b, off + k * 3 + j, none⟩ = (elemCells l[k])[j]? := fun j hj => by
    have hlen : (elemCells l[k]).length = 3 := rfl
    have e : (els l)[k * 3 + j]? = (elemCells l[k])[j]? := by
      rw [← List.getElem?_drop, els_drop, hd]
      show ((elemCells l[k]) ++ els (l.drop (k + 1)))[j]? = _
      rw [List.getElem?_append_left (by omega)]
    have hx : (elemCells l[k])[j]? = some (elemCells l[k])[j] := List.getElem?_eq_getElem (by omega)
    rw [hx] at e ⊢
    have := hc _ _ e
    rwa [← Nat.add_assoc] at this
  exact ⟨b, off, l[k], rfl, hb, hg, hcell 0 (by omega), hcell 1 (by omega), hcell 2 (by omega)⟩
def strF (l : List UInt8) : ByteArray := (l.map fun u => (u.toNat : Int)).foldl (fun r n => r.push (UInt8.ofNat n.toNat)) ByteArray.empty
theorem conv_str (w : World) (g n c : Nat) (l : List UInt8) (hl : l.length = n) (hb : Blk w g 5 (l.map bv).toArray) :
    (convert 48 9 (.slice (some ⟨g, 0, none⟩) n c)).run Tryz.prog w = .ok (.string (strF l)) w := by
  rw [run_convert_bytes_string w 48 9 5 _ n c Tryz.underlying48 Tryz.underlying5 Tryz.underlying9]
  refine run_bytesToString w ⟨g, 0, none⟩ n c (l.map fun u => (u.toNat : Int)) ?_
  have := run_loadCells_list (P := Tryz.prog) (w := w) ⟨g, 0, none⟩ (l.map bv) (fun j v hv => by
    have h1 := hb.cell j
    unfold Addr.add
    split
    · rename_i h0; subst h0; rw [h1]; simpa using hv
    · simp only [Nat.zero_add]; rw [h1]; simpa using hv)
  rw [List.length_map, hl] at this
  rw [this]
  simp [bv]
set_option maxHeartbeats 2000000 in
theorem text_any (A : Option Addr) (n c : Nat) (d : List GElem) (w : World) (ha : Reads w 3 A n (els d)) (hn : n ≤ 1000000) :
    Calls Tryz.prog 45 #[.slice A n c] w fun e w' => e = .returned (.string (strF (d.map (·.ch)))) ∧ Fr None' w w' := by
  have hl : d.length = n := by have := ha.1; rw [els_len] at this; omega
  have hlx : (d.map (·.ch)).length = n := by rw [List.length_map, hl]
  have hmk := run_mk w n n rfl (by omega)
  obtain ⟨Z, hZ⟩ : ∃ Z, Z = zeros n := ⟨_, rfl⟩
  rw [← hZ] at hmk
  have H0 : Hid (Blk (w.alloc (.cells Z.toArray 5)) w.heap.size 5 (((d.map (·.ch)).take 0).map bv ++ zeros (n - 0)).toArray ∧ Fr None' w (w.alloc (.cells Z.toArray 5))) := Lib.hid ⟨by subst hZ; simpa using Blk.new w 5 (zeros n).toArray, (Fr.refl _ _).alloc _⟩
  clear hZ
  go_enter Tryz.func45, Tryz.ntmps45
  go_wp2
  go_loopw [11] (fun i wr => ∃ k : Nat, k ≤ n ∧ i = .int .i64 (k : Int) ∧ Blk wr w.heap.size 5 (((d.map (·.ch)).take k).map bv ++ zeros (n - k)).toArray ∧ Fr None' w wr) (fun i _ => n - (intOf i).toNat)
  case atStart => exact ⟨0, Nat.zero_le _, rfl, H0.out.1, H0.out.2⟩
  case round =>
    clear H0 hmk
    obtain ⟨k, hk, rfl, hb, hf⟩ := hrel
    by_cases hlt : k < n
    · obtain ⟨b, off, u, rfl, hbb, hx, c0, c1, c2⟩ := el_at (ha.frn hf) hlt
      have hu : (d.map (·.ch))[k]? = some u.ch := by rw [List.getElem?_map, hx]; rfl
      have hc0 : ∃ v, wr.cell? ⟨w.heap.size, k, none⟩ = some v := by
        rw [hb.cell k]
        exact ⟨_, Array.getElem?_eq_getElem (by simp [zeros]; omega)⟩
      obtain ⟨v0, hv0⟩ := hc0
      have hfz := hb.frozen k
      have hblt := hb.lt
      have HN := Lib.hid (splice_step (d.map (·.ch)) n k u.ch hlt hu hlx)
      have HB := Lib.hid hb
      have HF := Lib.hid hf
      clear hb hf hu hx
      go_wp2
      go_round
      case rel => exact ⟨k + 1, by omega, by go_num, by have := HB.out.set_ k (bv u.ch); rw [HN.out] at this; exact this.alloc _, (HF.out.setCell (.inl (Nat.le_refl _)) _).alloc _⟩
      case measure => simp [intOf]; omega
    · have hkn : k = n := by omega
      subst hkn
      rw [List.take_of_length_le (by omega), Nat.sub_self] at hb
      have hb' : Blk wr w.heap.size 5 ((d.map (·.ch)).map bv).toArray := by simpa [zeros] using hb
      have hcv := conv_str wr w.heap.size k k (d.map (·.ch)) hlx hb'
      have HF := Lib.hid hf
      clear hb hb' hf
      obtain ⟨S, hS⟩ : ∃ S, S = strF (d.map (·.ch)) := ⟨_, rfl⟩
      rw [← hS] at hcv
      have HS := Lib.hid hS
      clear hS
      go_wp2
      go_ret
      exact ⟨by rw [← HS.out]; rfl, HF.out⟩
end Go.Proofs.YtodkhoclbhdihaaGreatDoor

/-
  Contracts of sent and seen.
-/
namespace Go.Proofs.YtodkhoclbhdihaaGreatDoor
open Go.RowKit

theorem enc_all (B : Nat) (m : GMsg) (w : World) (hG : Glb B w) : Calls Tryz.prog 61 #[msgV m] w fun e w' => EncPost w m e w' := by
  by_cases h : m.kind < 1 ∨ 6 < m.kind
  · refine (enc_kind m w h).mono fun e w' h' => ?_
    unfold EncPost encF
    rw [if_pos h]
    exact h'
  · exact enc_any B m w hG (by omega) (by omega)

/-- What sent answers. -/
def SentPost (w : World) (fr to_ : Int) (m : GMsg) (e : Ending) (w' : World) : Prop :=
  match encF m with
  | .ok l => ∃ g, e = .returned (.tuple #[dgV fr to_ (.slice (some ⟨g, 0, none⟩) l.length l.length) false, .bool true]) ∧ w.heap.size ≤ g ∧ Blk w' g 5 (l.map bv).toArray ∧ Fr None' w w'
  | .error _ => e = .returned (.tuple #[dgV fr to_ (.slice none 0 0) false, .bool false]) ∧ Fr None' w w'

set_option maxHeartbeats 8000000 in
theorem sent_any (B : Nat) (fr to_ : Int) (m : GMsg) (w : World) (hG : Glb B w) :
    Calls Tryz.prog 35 #[.int .i64 fr, .int .i64 to_, msgV m] w fun e w' => SentPost w fr to_ m e w' := by
  have hE : ∀ w0, Fr None' w w0 → Calls Tryz.prog 61 #[msgV m] w0 fun e w' => EncPost w0 m e w' := fun w0 h => enc_all B m w0 (hG.fr h fun _ h => h.elim)
  have HE := Lib.hid hE
  clear hE hG
  unfold SentPost
  unfold EncPost at HE
  generalize encF m = en at *
  obtain ⟨k, ep, cl, hv, fi, nu, ac, rv, tg, ⟨ok, op, oc, ol, os⟩⟩ := m
  unfold msgV msgCells opCells at *
  simp only [List.cons_append, List.nil_append] at *
  unfold dgV
  have hf0 : Fr None' w ((w.alloc (.cells #[.int .i64 k, .int .i64 ep, .int .i64 cl, .int .i64 hv, .int .i64 fi, .int .i64 nu, .int .i64 ac, .int .i64 rv, .int .i64 tg, .int .i64 ok, .int .i64 op, .int .u8 (oc.toNat : Int), .int .i64 ol, .int .i64 os] 28)).alloc (.cells #[.int .i64 0, .int .i64 0, .slice none 0 0, .bool false] 60)) := ((Fr.refl _ _).alloc _).alloc _
  have HF0 := Lib.hid hf0
  have HE1 := Lib.hid (HE.out _ hf0)
  have hD : Blk ((w.alloc (.cells #[.int .i64 k, .int .i64 ep, .int .i64 cl, .int .i64 hv, .int .i64 fi, .int .i64 nu, .int .i64 ac, .int .i64 rv, .int .i64 tg, .int .i64 ok, .int .i64 op, .int .u8 (oc.toNat : Int), .int .i64 ol, .int .i64 os] 28)).alloc (.cells #[.int .i64 0, .int .i64 0, .slice none 0 0, .bool false] 60)) (w.heap.size + 1) 60 #[.int .i64 0, .int .i64 0, .slice none 0 0, .bool false] := by
    have := Blk.new (w.alloc (.cells #[.int .i64 k, .int .i64 ep, .int .i64 cl, .int .i64 hv, .int .i64 fi, .int .i64 nu, .int .i64 ac, .int .i64 rv, .int .i64 tg, .int .i64 ok, .int .i64 op, .int .u8 (oc.toNat : Int), .int .i64 ol, .int .i64 os] 28)) 60 #[.int .i64 0, .int .i64 0, .slice none 0 0, .bool false]
    simpa using this
  have HD := Lib.hid hD
  clear hf0 hD HE
  cases en with
  | error x =>
    obtain ⟨c, pl⟩ := x
    dsimp only at *
    go_enter Tryz.func35, Tryz.ntmps35
    go_wp2_with fail
    refine HE1.out.mono ?_
    rintro e1 w1 ⟨g, rfl, hF, hf1⟩
    clear hF
    dsimp only
    have HF1 := Lib.hid (HF0.out.trans' hf1)
    have hD1 := HD.out.fr hf1 fun h => h
    have HD1 := Lib.hid hD1
    clear hf1 hD1 HE1
    (try unfold errV)
    go_wp2
    refine wp_region_M (Only (w.heap.size + 1)) (by kernel_rfl) ?_
    refine wpM_heads 6 0 2 (by kernel_rfl) (by kernel_rfl) ?_ (by kernel_rfl)
    simp only [List.take_succ_cons, List.take_zero, List.drop_zero]
    repeat (go_big_quiet_step (fail))
    refine wpQuiet_nil ?_
    refine wpM_step 6 rfl (by kernel_rfl) (fun w2 h2 h2' => ?_)
    have hD2 := HD1.out.drew.fr h2' fun h => h
    have y1 := fun i => Blk.cell hD2 i
    have y2 := fun i => Blk.frozen hD2 i
    have HD2 := Lib.hid hD2
    have H2 := Lib.hid h2
    clear h2 h2' hD2
    go_wp2_with fail
    refine ⟨MC.mk ?_, ?_⟩
    · iterate 4 refine Fr.setCell (S := Only (w.heap.size + 1)) ?_ (.inr (show w.heap.size + 1 = w.heap.size + 1 from rfl)) _
      exact H2.out
    have HD3 := Lib.hid ((((HD2.out.set_ 0 (.int .i64 fr)).set_ 1 (.int .i64 to_)).set_ 2 (.slice none 0 0)).set_ 3 (.bool false))
    clear y1 y2 H2
    refine wpM_step 7 rfl (by kernel_rfl) (fun w3 h3 h3' => ?_)
    have HD4 := Lib.hid (HD3.out.fr h3' fun h => h)
    have H3 := Lib.hid h3
    clear h3 h3'
    go_wp2_with fail
    refine ⟨MC.mk H3.out, ?_⟩
    refine wpM_done (by kernel_rfl) (fun w4 h4 h4' => ?_)
    have hD5 : Blk w4 (w.heap.size + 1) 60 #[.int .i64 fr, .int .i64 to_, (.slice none 0 0), .bool false] := by
      have := HD4.out.fr h4' fun h => h
      simpa using this
    have HF4 := Lib.hid (HF1.out.trans h4 fun i hi hs => by unfold Only at hs; omega)
    have H4 := Lib.hid h4
    have y1 : ∀ i, w4.cell? ⟨w.heap.size + 1, i, none⟩ = (#[.int .i64 fr, .int .i64 to_, (.slice none 0 0), .bool false] : Array Value)[i]? := fun i => Blk.cell hD5 i
    clear h4 h4' hD5
    go_wp2
    exact bodyPost_ret (v := .tuple #[.agg #[.int .i64 fr, .int .i64 to_, (.slice none 0 0), .bool false], .bool false]) (by simp [results, Tryz.results35, go_sem, y1]) rfl ⟨rfl, HF4.out⟩
  | ok l =>
    dsimp only at *
    go_enter Tryz.func35, Tryz.ntmps35
    go_wp2_with fail
    refine HE1.out.mono ?_
    rintro e1 w1 ⟨_, rfl, ⟨g, hg, rfl, hb⟩, hf1⟩
    have HGB := Lib.hid hb
    have HG1 := Lib.hid hg
    clear hb hg
    dsimp only
    have HF1 := Lib.hid (HF0.out.trans' hf1)
    have hD1 := HD.out.fr hf1 fun h => h
    have HD1 := Lib.hid hD1
    clear hf1 hD1 HE1
    (try unfold errV)
    go_wp2
    refine wp_region_M (Only (w.heap.size + 1)) (by kernel_rfl) ?_
    refine wpM_heads 6 0 2 (by kernel_rfl) (by kernel_rfl) ?_ (by kernel_rfl)
    simp only [List.take_succ_cons, List.take_zero, List.drop_zero]
    repeat (go_big_quiet_step (fail))
    refine wpQuiet_nil ?_
    refine wpM_step 6 rfl (by kernel_rfl) (fun w2 h2 h2' => ?_)
    have hD2 := HD1.out.drew.fr h2' fun h => h
    have y1 := fun i => Blk.cell hD2 i
    have y2 := fun i => Blk.frozen hD2 i
    have HD2 := Lib.hid hD2
    have H2 := Lib.hid h2
    clear h2 h2' hD2
    go_wp2_with fail
    refine ⟨MC.mk ?_, ?_⟩
    · iterate 4 refine Fr.setCell (S := Only (w.heap.size + 1)) ?_ (.inr (show w.heap.size + 1 = w.heap.size + 1 from rfl)) _
      exact H2.out
    have HD3 := Lib.hid ((((HD2.out.set_ 0 (.int .i64 fr)).set_ 1 (.int .i64 to_)).set_ 2 (.slice (some ⟨g, 0, none⟩) l.length l.length)).set_ 3 (.bool false))
    clear y1 y2 H2
    refine wpM_step 7 rfl (by kernel_rfl) (fun w3 h3 h3' => ?_)
    have HD4 := Lib.hid (HD3.out.fr h3' fun h => h)
    have H3 := Lib.hid h3
    clear h3 h3'
    go_wp2_with fail
    refine ⟨MC.mk H3.out, ?_⟩
    refine wpM_done (by kernel_rfl) (fun w4 h4 h4' => ?_)
    have hD5 : Blk w4 (w.heap.size + 1) 60 #[.int .i64 fr, .int .i64 to_, (.slice (some ⟨g, 0, none⟩) l.length l.length), .bool false] := by
      have := HD4.out.fr h4' fun h => h
      simpa using this
    have HF4 := Lib.hid (HF1.out.trans h4 fun i hi hs => by unfold Only at hs; omega)
    have H4 := Lib.hid h4
    have y1 : ∀ i, w4.cell? ⟨w.heap.size + 1, i, none⟩ = (#[.int .i64 fr, .int .i64 to_, (.slice (some ⟨g, 0, none⟩) l.length l.length), .bool false] : Array Value)[i]? := fun i => Blk.cell hD5 i
    clear h4 h4' hD5
    go_wp2
    exact bodyPost_ret (v := .tuple #[.agg #[.int .i64 fr, .int .i64 to_, (.slice (some ⟨g, 0, none⟩) l.length l.length), .bool false], .bool true]) (by simp [results, Tryz.results35, go_sem, y1]) rfl ⟨g, rfl, Nat.le_trans HF0.out.size HG1.out, HGB.out.fr H4.out (fun e => by have := HG1.out; have := HD.out.lt; unfold Only at e; omega), HF4.out⟩
end Go.Proofs.YtodkhoclbhdihaaGreatDoor

/-
  Contract of seen.
-/
namespace Go.Proofs.YtodkhoclbhdihaaGreatDoor
open Go.RowKit

theorem code_is (w : World) (X : Value) (x : Int × Int) (hG : ErrT w) (hX : ErrIs w X x) : Calls Tryz.prog 41 #[X] w fun e w' => e = .returned (.int .i64 x.1) ∧ Fr None' w w' := by
  rcases hX with ⟨rfl, rfl⟩ | ⟨_, g, rfl, hF⟩
  · exact code_nil w
  · exact code_fault g x.2 x.1 w hG hF

set_option maxHeartbeats 4000000 in
theorem seen_any (B a r v e : Nat) (T : GTap) (fr to_ : Int) (A : Option Addr) (n c : Nat) (xs : List UInt8) (sp : Bool) (w : World) (hG : Glb B w) (hB : ∀ k, Its a r v e k → B ≤ k) (hT : TapAt w a r v e T) (ha : RB w A n xs) (hn : n ≤ 1000000) :
    Calls Tryz.prog 27 #[.pointer (some ⟨a, 0, none⟩), dgV fr to_ (.slice A n c) sp] w fun ev w' => ev = .returned (.int .i64 (seeF T fr to_ xs).1.1) ∧ TapAt w' a r v e (seeF T fr to_ xs).2 ∧ Fr (Its a r v e) w w' := by
  have h0 : Fr None' w (w.alloc (.cells #[.int .i64 fr, .int .i64 to_, .slice A n c, .bool sp] 60)) := (Fr.refl _ _).alloc _
  have hD : Blk (w.alloc (.cells #[.int .i64 fr, .int .i64 to_, .slice A n c, .bool sp] 60)) w.heap.size 60 #[.int .i64 fr, .int .i64 to_, .slice A n c, .bool sp] := Blk.new _ _ _
  have HCp := Lib.hid (copied_any A n c xs _ (ha.frn h0) hn)
  have HG := Lib.hid hG
  have HT := Lib.hid hT
  have HD := Lib.hid hD
  have H0 := Lib.hid h0
  have HIlt := Lib.hid hT.lt
  clear hG hT hD h0 ha
  unfold dgV
  go_enter Tryz.func27, Tryz.ntmps27
  go_wp2_with fail
  refine HCp.out.mono ?_
  rintro e1 w1 ⟨r1, rfl, ⟨g, hg, rfl, hb⟩, hf1⟩
  dsimp only
  have hD1 := HD.out.fr hf1 fun h => h
  have hgw : w.heap.size < g := by have := HD.out.lt; omega
  obtain ⟨w2, hw2⟩ : ∃ w2, w2 = w1.setCell ⟨w.heap.size, 2, none⟩ (.slice (some ⟨g, 0, none⟩) xs.length xs.length) := ⟨_, rfl⟩
  have hD2 : Blk w2 w.heap.size 60 #[.int .i64 fr, .int .i64 to_, .slice (some ⟨g, 0, none⟩) xs.length xs.length, .bool sp] := by
    rw [hw2]
    have := hD1.set_ 2 (.slice (some ⟨g, 0, none⟩) xs.length xs.length)
    simpa using this
  have hf2 : Fr (Only w.heap.size) w1 w2 := by rw [hw2]; exact (Fr.refl _ _).setCell (.inr (show Only w.heap.size w.heap.size from rfl)) _
  have hb2 := hb.fr hf2 (fun h => by unfold Only at h; omega)
  have hF2 : Fr None' w w2 := (H0.out.trans' hf1).trans hf2 fun i hi hs => by unfold Only at hs; omega
  have hT2 := HT.out.frn hF2
  have hG2 := HG.out.fr hF2 fun _ h => h.elim
  have hRB2 : RB w2 (some ⟨g, 0, none⟩) xs.length xs := hb2.reads0 (by simp)
  have hS := see_any B a r v e T fr to_ (some ⟨g, 0, none⟩) xs.length xs.length xs sp w2 hG2 hT2 hRB2 (Nat.le_refl _)
  unfold dgV at hS
  have HS := Lib.hid hS
  have HW2 := Lib.hid hw2
  have HF2 := Lib.hid hF2
  have HG2 := Lib.hid hG2
  have y1 := fun i => Blk.cell hD1 i
  have y2 := fun i => Blk.frozen hD1 i
  have y3 : ∀ i, w2.cell? ⟨w.heap.size, i, none⟩ = (#[.int .i64 fr, .int .i64 to_, .slice (some ⟨g, 0, none⟩) xs.length xs.length, .bool sp] : Array Value)[i]? := fun i => Blk.cell hD2 i
  clear hD1 hw2 hD2 hf2 hb2 hF2 hT2 hG2 hRB2 hS hb hf1 hgw HCp hg
  go_wp2_with fail
  rw [← HW2.out]
  refine HS.out.mono ?_
  rintro e2 w3 ⟨X, rfl, hX, hT3, hf3⟩
  dsimp only
  have hC := code_is w3 X _ (HG2.out.fr hf3 hB).err hX
  obtain ⟨cd, hcd⟩ : ∃ cd, cd = (seeF T fr to_ xs).1.1 := ⟨_, rfl⟩
  rw [← hcd] at hC
  have HC := Lib.hid hC
  have HCD := Lib.hid hcd
  clear hC hcd
  have HT3 := Lib.hid hT3
  have HF3 := Lib.hid ((HF2.out.none).trans' hf3)
  clear hX hT3 hf3 y1 y2 y3
  go_wp2_with (go_at_call 41; refine HC.out.mono ?_; rintro e3 w4 ⟨rfl, hf4⟩)
  go_ret
  exact ⟨by rw [← HCD.out]; rfl, HT3.out.frn hf4, HF3.out.trans' hf4.none⟩
end Go.Proofs.YtodkhoclbhdihaaGreatDoor

/-
  Contract of begun: a tap that has seen record 1.
-/
namespace Go.Proofs.YtodkhoclbhdihaaGreatDoor
open Go.RowKit

def T1 (n : Int) : GTap := ⟨n, 1, [(1, firstOp)], [((1, 1), 1)], []⟩
def firstL : List UInt8 := sealed (layB (flat firstM) (shape 5))
theorem first_enc : encF firstM = .ok firstL := by
  unfold encF firstL
  rw [if_neg (by decide)]
  have : firstBad (flat firstM) (shape firstM.kind.toNat) (if firstM.kind = 2 then firstM.client else 0) = none := by decide +kernel
  rw [this]
  rfl
theorem first_see (n : Int) (h1 : 1 ≤ n) : seeF (emptyT n) 0 1 firstL = ((0, 0), T1 n) := by
  have hb : ¬ badAdr (emptyT n).clients 0 1 := by
    unfold badAdr emptyT
    simp
    omega
  rw [see_msg hb (trip first_enc)]
  rfl
theorem first_known : knownF [(1, firstOp)] = [1] := by simp [knownF, sortI]
theorem first_stand : standF [(1, firstOp)] = ([firstOp], [⟨97, 1, 1⟩]) := by kernel_rfl
theorem none_known : knownF [] = [] := by simp [knownF, sortI]
theorem first_str : strF [97] = ⟨#[97]⟩ := by rfl

def FM : Value := .agg #[.int .i64 5, .int .i64 1, .int .i64 1, .int .i64 0, .int .i64 0, .int .i64 1, .int .i64 0, .int .i64 1, .int .i64 0, .int .i64 1, .int .i64 0, .int .u8 97, .int .i64 1, .int .i64 1]
theorem first_lit (w : World) : Calls Tryz.prog 11 #[] w fun e w' => e = .returned FM ∧ Fr None' w w' := first_any w
theorem sent_lit (B : Nat) (w : World) (hG : Glb B w) : Calls Tryz.prog 35 #[.int .i64 0, .int .i64 1, FM] w fun e w' =>
    ∃ g, e = .returned (.tuple #[.agg #[.int .i64 0, .int .i64 1, .slice (some ⟨g, 0, none⟩) firstL.length firstL.length, .bool false], .bool true]) ∧ w.heap.size ≤ g ∧ RB w' (some ⟨g, 0, none⟩) firstL.length firstL ∧ Fr None' w w' := by
  refine (sent_any B 0 1 firstM w hG).mono fun e w' h => ?_
  unfold SentPost at h
  rw [first_enc] at h
  obtain ⟨g, h1, h2, h3, h4⟩ := h
  exact ⟨g, h1, h2, h3.reads0 (by simp), h4⟩
theorem see_lit (B a r v e : Nat) (n : Int) (h1 : 1 ≤ n) (g : Nat) (w : World) (hG : Glb B w) (hT : TapAt w a r v e (emptyT n)) (ha : RB w (some ⟨g, 0, none⟩) firstL.length firstL) :
    Calls Tryz.prog 37 #[.pointer (some ⟨a, 0, none⟩), .agg #[.int .i64 0, .int .i64 1, .slice (some ⟨g, 0, none⟩) firstL.length firstL.length, .bool false]] w fun ev w' => ev = .returned .nilIface ∧ TapAt w' a r v e (T1 n) ∧ Fr (Its a r v e) w w' := by
  refine (see_any B a r v e (emptyT n) 0 1 (some ⟨g, 0, none⟩) firstL.length firstL.length firstL false w hG hT ha (Nat.le_refl _)).mono fun e w' h => ?_
  rw [first_see n h1] at h
  obtain ⟨X, h1, h2, h3, h4⟩ := h
  refine ⟨?_, h3, h4⟩
  rcases h2 with ⟨_, rfl⟩ | ⟨hne, _⟩
  · exact h1
  · exact absurd rfl hne

theorem ints_same (A B : Option Addr) (n m c d : Nat) (xs : List Int) (w : World) (ha : RI w A n xs) (hb : RI w B m xs) (hn : n ≤ 1000000) (hm : m ≤ 1000000) :
    Calls Tryz.prog 17 #[.slice A n c, .slice B m d] w fun e w' => e = .returned (.bool true) ∧ Fr None' w w' :=
  (ints_any A B n m c d xs xs w ha hb hn hm).mono fun e w' h => ⟨h.1.trans (by simp), h.2⟩
theorem lines_same (A B : Option Addr) (n m c d : Nat) (xs : List GOp) (w : World) (ha : Reads w 5 A n (ops xs)) (hb : Reads w 5 B m (ops xs)) (hn : n ≤ 1000000) (hm : m ≤ 1000000) :
    Calls Tryz.prog 15 #[.slice A n c, .slice B m d] w fun e w' => e = .returned (.bool true) ∧ Fr None' w w' :=
  (lines_any A B n m c d xs xs w ha hb hn hm).mono fun e w' h => ⟨h.1.trans (by simp), h.2⟩

theorem field9 (w : World) : (Instr.field 28 (.agg #[.int .i64 5, .int .i64 1, .int .i64 1, .int .i64 0, .int .i64 0, .int .i64 1, .int .i64 0, .int .i64 1, .int .i64 0, .int .i64 1, .int .i64 0, .int .u8 97, .int .i64 1, .int .i64 1]) 9).run Tryz.prog w = .ok (.agg #[.int .i64 1, .int .i64 0, .int .u8 97, .int .i64 1, .int .i64 1]) w := by kernel_rfl
theorem text_lit (A : Option Addr) (c : Nat) (w : World) (ha : Reads w 3 A 1 (els [⟨97, 1, 1⟩])) : Calls Tryz.prog 45 #[.slice A 1 c] w fun e w' => e = .returned (.string ⟨#[97]⟩) ∧ Fr None' w w' :=
  (text_any A 1 c [⟨97, 1, 1⟩] w ha (by omega)).mono fun e w' h => ⟨h.1.trans (by rw [← first_str]; rfl), h.2⟩

set_option maxHeartbeats 16000000 in
theorem begun_any (B : Nat) (n : Int) (w : World) (hG : Glb B w) (h1 : 1 ≤ n) (h64 : n ≤ 64) :
    Calls Tryz.prog 10 #[.int .i64 n] w fun ev w' => ∃ a r v e, ev = .returned (.pointer (some ⟨a, 0, none⟩)) ∧ TapAt w' a r v e (T1 n) ∧ (∀ k, Its a r v e k → w.heap.size ≤ k) ∧ Fr None' w w' := by
  have HN := Lib.hid (new_any n w h1 h64)
  have HG := Lib.hid hG
  have H1 := Lib.hid h1
  clear hG h1 h64
  go_enter Tryz.func10, Tryz.ntmps10
  go_wp2_with fail
  refine HN.out.mono ?_
  rintro e1 w1 ⟨a, r, v, e, rfl, hT, hlo, hf⟩
  dsimp only
  have HLo := Lib.hid hlo
  have HT1 := Lib.hid hT
  have HF1 := Lib.hid hf
  clear hT hlo hf HN
  go_wp2_with fail
  refine (first_lit _).mono ?_
  rintro e2 w2 ⟨rfl, hf⟩
  dsimp only
  have HT2 := Lib.hid (HT1.out.frn hf)
  have HF2 := Lib.hid (HF1.out.trans' hf)
  clear hf HT1 HF1
  go_wp2_with fail
  refine (sent_lit B _ (HG.out.fr HF2.out fun _ h => h.elim)).mono ?_
  rintro e3 w3 ⟨g, rfl, hg, hrb, hf⟩
  dsimp only
  have HT3 := Lib.hid (HT2.out.frn hf)
  have HF3 := Lib.hid (HF2.out.trans' hf)
  have HRB := Lib.hid hrb
  clear hf hg hrb HT2 HF2
  obtain ⟨w4, hw4⟩ : ∃ w4, w4 = w3.alloc (.cells #[.int .i64 0, .int .i64 1, .slice (some ⟨g, 0, none⟩) firstL.length firstL.length, .bool false] 60) := ⟨_, rfl⟩
  have hx4 : Fr None' w3 w4 := by rw [hw4]; exact (Fr.refl _ _).alloc _
  have hD4 : Blk w4 w3.heap.size 60 #[.int .i64 0, .int .i64 1, .slice (some ⟨g, 0, none⟩) firstL.length firstL.length, .bool false] := by rw [hw4]; exact Blk.new _ _ _
  have HW4 := Lib.hid hw4
  have HT4 := Lib.hid (HT3.out.frn hx4)
  have HF4 := Lib.hid (HF3.out.trans' hx4)
  have HRB4 := Lib.hid (HRB.out.frn hx4)
  have HD4 := Lib.hid hD4
  clear hw4 hx4 hD4 HT3 HF3 HRB
  go_wp2_with fail
  rw [← HW4.out]
  refine (epoch_any a r v e _ _ HT4.out).mono ?_
  rintro e4 w5 ⟨rfl, rfl⟩
  dsimp only [emptyT]
  go_wp2_with fail
  refine (known_any a r v e _ _ HT4.out (by simp [emptyT])).mono ?_
  rintro e5 w5 ⟨A5, c5, rfl, _, hk5, _, hf⟩
  dsimp only [emptyT, List.length_nil]
  have HT5 := Lib.hid (HT4.out.frn hf)
  have HF5 := Lib.hid (HF4.out.trans' hf)
  have HRB5 := Lib.hid (HRB4.out.frn hf)
  have hD5 := HD4.out.fr hf fun h => h
  have y5 : ∀ i, w5.cell? ⟨w3.heap.size, i, none⟩ = (#[.int .i64 0, .int .i64 1, .slice (some ⟨g, 0, none⟩) firstL.length firstL.length, .bool false] : Array Value)[i]? := fun i => Blk.cell hD5 i
  clear hf hD5 hk5
  go_wp2_with fail
  refine (see_lit B a r v e n H1.out g _ (HG.out.fr HF5.out fun _ h => h.elim) HT5.out HRB5.out).mono ?_
  rintro e6 w6 ⟨rfl, hT6, hf⟩
  dsimp only
  have HT6 := Lib.hid hT6
  have HF6 := Lib.hid (HF5.out.trans hf fun i hi hs => by have := HLo.out i hs; omega)
  clear hT6 hf y5 HT5 HT4 HF5 HF4 HRB5 HRB4 HD4 HW4
  go_wp2_with fail
  refine (epoch_any a r v e _ _ HT6.out).mono ?_
  rintro e4 w7 ⟨rfl, rfl⟩
  dsimp only [T1]
  go_wp2_with fail
  refine (known_any a r v e _ _ HT6.out (by simp [T1])).mono ?_
  rintro e5 w7 ⟨A7, c7, rfl, hc7, hk7, hft7, hf⟩
  dsimp only [T1, List.length_cons, List.length_nil]
  have hk7' : RI w7 A7 1 [1] := by have := hk7; unfold T1 at this; dsimp only at this; rw [first_known] at this; exact this
  have HT7 := Lib.hid (HT6.out.frn hf)
  have HF7 := Lib.hid (HF6.out.trans' hf)
  have hx : Fr None' w7 (w7.alloc (.cells #[.int .i64 1] 3)) := (Fr.refl _ _).alloc _
  have HI := Lib.hid (ints_same A7 (some ⟨w7.heap.size, 0, none⟩) 1 1 c7 1 [1] _ (hk7'.frn hx) (one_reads w7 INT [.int .i64 1]) (by omega) (by omega))
  clear hf hk7 hk7' hc7 hft7 hx HT6 HF6
  go_wp2_with fail
  refine HI.out.mono ?_
  rintro e8 w8 ⟨rfl, hf⟩
  dsimp only
  have HT8 := Lib.hid ((HT7.out.frn ((Fr.refl _ _).alloc _)).frn hf)
  have HF8 := Lib.hid ((HF7.out.alloc _).trans' hf)
  clear hf HI HT7 HF7
  go_wp2_with fail
  refine (doc_any a r v e _ _ HT8.out (by simp [T1])).mono ?_
  rintro e9 w9 ⟨vt, rfl, ho, hf⟩
  dsimp only
  have ho' : w9.ownsRow w8.heap.size ET 3 vt 1 (els [⟨97, 1, 1⟩]) := by have := ho; unfold T1 at this; dsimp only at this; rw [first_stand] at this; exact this
  obtain ⟨A9, c9, rfl, _, hr9, _⟩ := own_reads ho'
  have HX := Lib.hid (text_lit A9 c9 w9 hr9)
  have HT9 := Lib.hid (HT8.out.frn hf)
  have HF9 := Lib.hid (HF8.out.trans' hf)
  clear hf ho ho' hr9 HT8 HF8
  go_wp2_with fail
  refine HX.out.mono ?_
  rintro e10 w10 ⟨rfl, hf⟩
  dsimp only
  have HT10 := Lib.hid (HT9.out.frn hf)
  have HF10 := Lib.hid (HF9.out.trans' hf)
  clear hf HX HT9 HF9
  go_wp2_with fail
  refine (records_any a r v e _ _ HT10.out (by simp [T1])).mono ?_
  rintro e11 w11 ⟨vl, rfl, ho, hf⟩
  dsimp only
  have ho' : w11.ownsRow w10.heap.size OPT 5 vl 1 (ops [firstOp]) := by have := ho; unfold T1 at this; dsimp only at this; rw [first_stand] at this; exact this
  obtain ⟨A11, c11, rfl, _, hr11, _⟩ := own_reads ho'
  have HT11 := Lib.hid (HT10.out.frn hf)
  have HF11 := Lib.hid (HF10.out.trans' hf)
  have HR11 := Lib.hid hr11
  clear hf ho ho' hr11 HT10 HF10
  go_wp2_with fail
  refine (first_lit _).mono ?_
  rintro e12 w12 ⟨rfl, hf⟩
  unfold FM
  dsimp only
  have HT12 := Lib.hid (HT11.out.frn hf)
  have HF12 := Lib.hid (HF11.out.trans' hf)
  have hx : Fr None' w12 (w12.alloc (.cells #[.int .i64 1, .int .i64 0, .int .u8 97, .int .i64 1, .int .i64 1] 26)) := (Fr.refl _ _).alloc _
  have HL := Lib.hid (lines_same A11 (some ⟨w12.heap.size, 0, none⟩) 1 1 c11 1 [firstOp] _ ((HR11.out.frn hf).frn hx) (one_reads w12 OPT [.int .i64 1, .int .i64 0, .int .u8 97, .int .i64 1, .int .i64 1]) (by omega) (by omega))
  clear hf hx HR11 HT11 HF11
  have f9 := field9
  go_wp2_with fail
  refine HL.out.mono ?_
  rintro e13 w13 ⟨rfl, hf⟩
  dsimp only
  have HT13 := Lib.hid ((HT12.out.frn ((Fr.refl _ _).alloc _)).frn hf)
  have HF13 := Lib.hid ((HF12.out.alloc _).trans' hf)
  clear hf HL HT12 HF12
  go_wp2
  go_ret
  exact ⟨a, r, v, e, rfl, HT13.out, HLo.out, HF13.out⟩
end Go.Proofs.YtodkhoclbhdihaaGreatDoor
