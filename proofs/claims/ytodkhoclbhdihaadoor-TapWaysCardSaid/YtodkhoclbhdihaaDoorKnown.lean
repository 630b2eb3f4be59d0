/-
  Contract of tap's Known.
-/
import Derived.Test.YtodkhoclbhdihaaDoorStand
import Derived.Test.YtodkhoclbhdihaaDoorLays
namespace Go.Proofs.YtodkhoclbhdihaaDoor
open Go.RowKit Go.Sort Go.Shelf

theorem sorted_unique : ∀ (l l' : List Int), l.Perm l' → l.Pairwise (· ≤ ·) → l'.Pairwise (· ≤ ·) → l = l'
  | [], l', h, _, _ => h.nil_eq.symm ▸ rfl
  | a :: l, [], h, _, _ => by have := h.length_eq; simp at this
  | a :: l, b :: l', h, h1, h2 => by
    obtain ⟨h1a, h1b⟩ := List.pairwise_cons.1 h1
    obtain ⟨h2a, h2b⟩ := List.pairwise_cons.1 h2
    have hab : a = b := by
      have ha : a ∈ b :: l' := h.mem_iff.1 (List.mem_cons_self ..)
      have hb : b ∈ a :: l := h.mem_iff.2 (List.mem_cons_self ..)
      rcases List.mem_cons.1 ha with e | ha
      · exact e
      · rcases List.mem_cons.1 hb with e | hb
        · exact e.symm
        · have := h2a a ha
          have := h1a b hb
          omega
    subst hab
    rw [sorted_unique l l' h.cons_inv h1b h2b]
def sortI (l : List Int) : List Int := l.mergeSort fun x y => decide (x ≤ y)
theorem sortI_pair (l : List Int) : (sortI l).Pairwise (· ≤ ·) := by
  have := List.pairwise_mergeSort (le := fun x y : Int => decide (x ≤ y)) (by intro a b c h1 h2; simp at *; omega) (by intro a b; simp; omega) l
  exact this.imp fun h => by simpa using h
theorem sortI_perm {l l' : List Int} (h : l.Perm l') : sortI l = sortI l' :=
  sorted_unique _ _ ((List.mergeSort_perm l _).trans (h.trans (List.mergeSort_perm l' _).symm)) (sortI_pair l) (sortI_pair l')
theorem sortI_len (l : List Int) : (sortI l).length = l.length := (List.mergeSort_perm l _).length_eq
def knownF (recs : List (Int × GOp)) : List Int := sortI (recs.map (·.1))

/-- What Known answers. -/
def KnownPost (w : World) (recs : List (Int × GOp)) (ev : Ending) (w' : World) : Prop :=
  ∃ A c, ev = .returned (.slice A recs.length c) ∧ recs.length ≤ c ∧ RI w' A recs.length (knownF recs) ∧ (∀ k, Foot A recs.length k → w.heap.size ≤ k) ∧ Fr None' w w'

/-- The sort of a list that is new since world W. -/
theorem sort_any (W w : World) (v : Value) (zs : List Int) (hf : Fr None' W w) (hown : w.ownsRow W.heap.size INT 1 v zs.length (zs.map vi)) (hn : zs.length ≤ 1000000) :
    ∃ A c, v = .slice A zs.length c ∧ Calls Tryd.prog 21 #[.slice A zs.length c] w fun e w' => e = .returned (.tuple #[]) ∧ zs.length ≤ c ∧ RI w' A zs.length (sortI zs) ∧ (∀ k, Foot A zs.length k → W.heap.size ≤ k) ∧ Fr None' W w' := by
  obtain ⟨A, c, rfl, hc, hr, hft⟩ := own_reads hown
  refine ⟨A, c, rfl, ?_⟩
  by_cases h0 : zs.length = 0
  · have hz : zs = [] := List.eq_nil_of_length_eq_zero h0
    subst hz
    have h := AnyM.slices_Sort_int_none sortLays A c w
    exact h.mono fun e w' ⟨h1, h2⟩ => ⟨h1, hc, by rw [h2, show sortI [] = [] by simp [sortI]]; exact Reads.nil, hft, by rw [h2]; exact hf⟩
  · rcases hown.2 with ⟨_, _⟩ | ⟨g, cap, cur, h, hb, hg, hcc, _, hcs, htake⟩
    · exact absurd ‹zs.length = 0› h0
    · cases h
      have hH : Holds (Value.int .i64) w g 0 zs.toArray := fun j hj => by
        have hj' : j < zs.length := by simpa using hj
        obtain ⟨b, off, hA, hlt, hcell⟩ := hr.2 (by omega)
        cases hA
        refine ⟨?_, Blk.frozen (show Blk w g INT cur from hg) _⟩
        have := hcell j (vi zs[j]) (by rw [List.getElem?_map, List.getElem?_eq_getElem hj']; rfl)
        rw [this]
        simp [vi, hj']
      have h := AnyM.slices_Sort_int sortLays g 0 c zs w hH (lt_of_heap hg) (by omega)
      refine h.mono fun e w' ⟨h1, n, os, h2⟩ => ⟨h1, hc, ?_, hft, ?_⟩
      · have hs : (sortI zs).toArray.size = zs.toArray.size := by simp [sortI_len]
        have hg2 : (putRow (Value.int .i64) (Sort.ahead w n) g 0 (sortI zs).toArray).heap.size = w.heap.size := by simp [putRow, mapBlock, Sort.ahead]
        refine ⟨by simp [sortI_len], fun _ => ⟨g, 0, rfl, ?_, fun j u hu => ?_⟩⟩
        · rw [h2]
          have := lt_of_heap hg
          simp only [grow, Array.size_append]
          have e : (putRow (Value.int .i64) (Sort.ahead w n) g 0 (zs.mergeSort fun x y => decide (x ≤ y)).toArray).heap.size = w.heap.size := hg2
          omega
        · have hj : j < (sortI zs).length := by
            have := (List.getElem?_eq_some_iff.1 hu).1
            simpa using this
          rw [h2, cell?_grow _ _ _ (show g < _ from by have e : (putRow (Value.int .i64) (Sort.ahead w n) g 0 (zs.mergeSort fun x y => decide (x ≤ y)).toArray).heap.size = w.heap.size := hg2; rw [e]; exact lt_of_heap hg)]
          have := cell?_putRow (Value.int .i64) (Sort.ahead w n) g 0 zs.toArray (sortI zs).toArray (fun j hj => hH j hj) hs j (by simpa using hj)
          refine this.trans ?_
          rw [List.getElem?_map, List.getElem?_eq_getElem hj] at hu
          cases hu
          simp [vi, hj]
      · have hg' := lt_of_heap hg
        rw [h2]
        refine ⟨hf.os, hf.tape, hf.output, ?_, fun k hk _ => ?_⟩
        · have : w.heap.size ≤ (grow (putRow (Value.int .i64) (Sort.ahead w n) g 0 (zs.mergeSort fun x y => decide (x ≤ y)).toArray) os).heap.size := by simp [grow, putRow, mapBlock, Sort.ahead]
          exact Nat.le_trans hf.size this
        · have hkw : k < w.heap.size := Nat.lt_of_lt_of_le hk hf.size
          have e1 := heap_grow_old (putRow (Value.int .i64) (Sort.ahead w n) g 0 (zs.mergeSort fun x y => decide (x ≤ y)).toArray) os (k := k) (by simp [putRow, mapBlock, Sort.ahead]; exact hkw)
          refine e1.trans (Eq.trans ?_ (hf.block k hk fun h => h))
          have hne : ¬ g = k := by omega
          simp [putRow, mapBlock, Sort.ahead, Array.getElem?_modify, hne]

/-- How far the range has come. -/
def Ranged (w : World) (r : Nat) (recs : List (Int × GOp)) (l : Value) (wr : World) : Prop :=
  ∃ out rest, Ranging vi opV wr w.heap.size r recs rest ∧ (out ++ rest).Perm recs ∧ wr.ownsRow w.heap.size INT 1 l out.length ((out.map (·.1)).map vi) ∧ Fr None' w wr
def lenV : Value → Nat | .slice _ n _ => n | _ => 0
theorem int_info : (Tryd.prog.info? INT).map (fun i => (i.zero, i.size, i.bytes)) = some (some (.int .i64 0), 1, 8) := by kernel_rfl

set_option maxHeartbeats 16000000 in
theorem known_any (a r v e : Nat) (T : GTap) (w : World) (hT : TapAt w a r v e T) (hlen : T.records.length ≤ 100000) :
    Calls Tryd.prog 11 #[.pointer (some ⟨a, 0, none⟩)] w fun ev w' => KnownPost w T.records ev w' := by
  have z0 := hT.cells
  obtain ⟨hst, hRg⟩ := Ranging.start hT.recs rec_under
  have hrlt := hT.recs.lt
  have H0 : Hid (Ranged w r T.records (.slice none 0 0) (w.alloc (.mapIter (some r) T.records.length #[] T.records.length))) := Lib.hid ⟨[], T.records, hRg, List.Perm.refl _, World.ownsRow_nil _ _ _ _, (Fr.refl _ _).alloc _⟩
  clear hRg hT
  go_enter Tryd.func11, Tryd.ntmps11
  go_wp2
  clear hst z0
  go_loopw [3] (fun l wr => Ranged w r T.records l wr) (fun l _ => T.records.length - lenV l)
  case atStart => exact H0.out
  case round =>
    clear H0
    obtain ⟨out, rest, hR, hperm, hown, hf⟩ := hrel
    have hplen := hperm.length_eq
    rw [List.length_append] at hplen
    rcases hR.next (P := Tryd.prog) 0 (by omega) with ⟨rfl, hrun⟩ | ⟨p, rest', w', hp, hrun, hR', hf', hsz, hent⟩
    · have hol : out.length = T.records.length := by simpa using hplen
      rw [List.append_nil] at hperm
      have hown' := hown
      rw [show out.length = (out.map (·.1)).length by simp] at hown'
      obtain ⟨A, c, rfl, hs⟩ := sort_any w wr _ (out.map (·.1)) hf hown' (by rw [List.length_map]; omega)
      rw [List.length_map, hol, sortI_perm (hperm.map (·.1))] at hs
      rw [List.length_map, hol] at *
      have Hs := Lib.hid hs
      clear hs hown hown' hR hperm hf hplen
      go_wp2_with (go_at_call 21; refine Hs.out.mono ?_; rintro e1 w2 ⟨rfl, hc, hri, hft, hfr⟩)
      go_ret
      exact ⟨A, c, rfl, hc, hri, hft, hfr⟩
    · obtain ⟨k, o⟩ := p
      have hle : out.length + 1 ≤ T.records.length := by
        have := hp.length_eq
        rw [List.length_cons] at this
        omega
      have hwl : w.heap.size ≤ w'.heap.size := Nat.le_trans hf.size hf'.size
      have hgi : ∀ j, (fun j => Value.ownBlock _ = some j) j → ¬ (j = w.heap.size) := fun j hj e => by
        obtain ⟨cs, hcs⟩ := own_block hown hj
        obtain ⟨_, seen, hit, _⟩ := hR
        rw [e, hit] at hcs
        cases hcs
      have hown1 := own_fr hown hf' hgi
      have hx : Fr None' w' (w'.alloc (.cells #[.int .i64 k] INT)) := (Fr.refl _ _).alloc _
      obtain ⟨v2, w2, r2, o2, f2, at2⟩ := app_any (P := Tryd.prog) (t := 43) (ty := 43) (e := INT) (size := 1) (bytes := 8) Tryd.underlying43 int_info rfl (by omega) (own_fr hown1 hx fun _ _ h => h) (one_reads w' INT [.int .i64 k]) (c := 1) (by simp [Value.oneCell']) (by omega) (by omega) (by simp; omega)
      have HNew : Hid (Ranged w r T.records v2 w2) := by
        refine ⟨out ++ [(k, o)], rest', ?_, ?_, ?_, ?_⟩
        · refine (hR'.fr hx (fun h => h) fun h => h).fr f2 (fun hj => hgi _ hj rfl) fun hj => ?_
          have := (hown.lt _ hj).1
          omega
        · rw [List.append_assoc]
          exact ((List.Perm.append_left out hp.symm)).trans hperm
        · have e1 : (out ++ [(k, o)]).length = out.length + 1 := by simp
          have e2 : ((out ++ [(k, o)]).map (·.1)).map vi = (out.map (·.1)).map vi ++ [.int .i64 k] := by simp [vi]
          rw [e1, e2]
          exact o2
        · refine ((hf.trans hf' fun i hi hs => ?_).alloc _).trans f2 fun i hi hs => ?_
          · unfold Only at hs; omega
          · have := (hown.lt _ hs).1
            omega
      have hlv : lenV v2 = out.length + 1 := by obtain ⟨A2, c2, e, _⟩ := own_reads o2; rw [e]; rfl
      have hlv1 : ∀ x n xs, wr.ownsRow w.heap.size INT 1 x n xs → lenV x = n := fun x n xs h => by obtain ⟨A2, c2, e, _⟩ := own_reads h; rw [e]; rfl
      have hl1 := hlv1 _ _ _ hown
      have HL := Lib.hid (And.intro hlv (And.intro hl1 hle))
      unfold vi at hrun hent
      dsimp only at hrun hent
      clear hR hR' hf hf' hown hown1 hgi hx o2 f2 at2 hp hperm hplen hlv hl1 hlv1 hsz
      unfold opV at hrun hent
      go_wp2_with (at_builtin; refine wpList_app rfl _ _ _ rfl rfl rfl r2 ?_)
      go_round
      case rel => exact HNew.out
      case measure => have := HL.out; omega
end Go.Proofs.YtodkhoclbhdihaaDoor
