/-
  Contracts of copied, Text, sent, seen.
-/
import Derived.Test.YtodkhoclbhdihaaDoorLaw1
import Derived.Laws.BytesString
namespace Go.Proofs.YtodkhoclbhdihaaDoor
open Go.RowKit

theorem splice_step (xs : List UInt8) (n k : Nat) (u : UInt8) (hk : k < n) (hu : xs[k]? = some u) (hl : xs.length = n) :
    (((xs.take k).map bv ++ zeros (n - k)).toArray).setIfInBounds k (bv u) = ((xs.take (k + 1)).map bv ++ zeros (n - (k + 1))).toArray := by
  apply Array.ext'
  simp only [Array.toList_setIfInBounds]
  have hz : zeros (n - k) = .int .u8 0 :: zeros (n - (k + 1)) := by
    unfold zeros
    rw [show n - k = (n - (k + 1)) + 1 by omega, List.replicate_succ]
  have hlen : ((xs.take k).map bv).length = k := by rw [List.length_map, List.length_take]; omega
  rw [hz, List.set_append_right _ _ (by omega), hlen, Nat.sub_self, List.set_cons_zero, List.take_add_one, hu]
  simp
set_option maxHeartbeats 2000000 in
theorem copied_any (A : Option Addr) (n c : Nat) (xs : List UInt8) (w : World) (ha : RB w A n xs) (hn : n ≤ 1000000) :
    Calls Tryd.prog 19 #[.slice A n c] w fun e w' => ∃ r, e = .returned r ∧ NewB w w' r xs ∧ Fr None' w w' := by
  have hl : xs.length = n := by have := ha.len1; rwa [List.length_map] at this
  have hmk := run_mk w n n rfl (by omega)
  obtain ⟨Z, hZ⟩ : ∃ Z, Z = zeros n := ⟨_, rfl⟩
  rw [← hZ] at hmk
  have H0 : Hid (Blk (w.alloc (.cells Z.toArray 5)) w.heap.size 5 ((xs.take 0).map bv ++ zeros (n - 0)).toArray ∧ Fr None' w (w.alloc (.cells Z.toArray 5))) := Lib.hid ⟨by subst hZ; simpa using Blk.new w 5 (zeros n).toArray, (Fr.refl _ _).alloc _⟩
  clear hZ
  go_enter Tryd.func19, Tryd.ntmps19
  go_wp2
  go_loopw [4] (fun i wr => ∃ k : Nat, k ≤ n ∧ i = .int .i64 (k : Int) ∧ Blk wr w.heap.size 5 ((xs.take k).map bv ++ zeros (n - k)).toArray ∧ Fr None' w wr) (fun i _ => n - (intOf i).toNat)
  case atStart => exact ⟨0, Nat.zero_le _, rfl, H0.out.1, H0.out.2⟩
  case round =>
    clear H0 hmk
    obtain ⟨k, hk, rfl, hb, hf⟩ := hrel
    by_cases hlt : k < n
    · obtain ⟨b, off, u, rfl, hbb, hx, hc⟩ := (ha.frn hf).at1 hlt
      rw [List.getElem?_map, Option.map_eq_some_iff] at hx
      obtain ⟨u', hu, rfl⟩ := hx
      have hc0 : ∃ v, wr.cell? ⟨w.heap.size, k, none⟩ = some v := by
        rw [hb.cell k]
        exact ⟨_, Array.getElem?_eq_getElem (by simp [zeros]; omega)⟩
      obtain ⟨v0, hv0⟩ := hc0
      have hfz := hb.frozen k
      have HN := Lib.hid (splice_step xs n k u' hlt hu hl)
      have HB := Lib.hid hb
      have HF := Lib.hid hf
      unfold bv at hc
      clear hb hf hu
      go_wp2
      go_round
      case rel => exact ⟨k + 1, by omega, by go_num, by have := HB.out.set_ k (bv u'); rw [HN.out] at this; exact this, HF.out.setCell (.inl (Nat.le_refl _)) _⟩
      case measure => simp [intOf]; omega
    · have HB := Lib.hid hb
      have HF := Lib.hid hf
      clear hb hf
      have hkn : k = n := by omega
      subst hkn
      go_wp2
      go_ret
      refine ⟨.slice (some ⟨w.heap.size, 0, none⟩) k k, rfl, ⟨w.heap.size, Nat.le_refl _, by rw [hl], ?_⟩, HF.out⟩
      have := HB.out
      rw [List.take_of_length_le (by omega), Nat.sub_self] at this
      simpa [zeros] using this

/-! ### the text -/
theorem el_at {w : World} {A : Option Addr} {n k : Nat} {l : List GElem} (h : Reads w 3 A n (els l)) (hk : k < n) : ∃ b off o, A = some ⟨b, off, none⟩ ∧ b < w.heap.size ∧ l[k]? = some o ∧
    w.cell? ⟨b, off + k * 3, none⟩ = some (.int .u8 (o.ch.toNat : Int)) ∧ w.cell? ⟨b, off + k * 3 + 1, none⟩ = some (.int .i64 o.client) ∧ w.cell? ⟨b, off + k * 3 + 2, none⟩ = some (.int .i64 o.seq) := by
  obtain ⟨b, off, rfl, hb, hc⟩ := h.2 (by omega)
  have hl : l.length = n := by have := h.1; rw [els_len] at this; omega
  have hg : l[k]? = some l[k] := List.getElem?_eq_getElem (by omega)
  have hd : l.drop k = l[k] :: l.drop (k + 1) := List.drop_eq_getElem_cons (by omega)
  have hcell : ∀ j, j < 3 → w.cell? ⟨b, off + k * 3 + j, none⟩ = (elemCells l[k])[j]? := fun j hj => by
    have hlen : (elemCells l[k]).length = 3 := rfl
    have e : (els l)[k * 3 + j]? = (elemCells l[k])[j]? := by
      rw [← List.getElem?_drop, els_drop, hd]
      show ((elemCells l[k]) ++ els (l.drop (k + 1)))[j]? = _
      rw [List.getElem?_append_left (by omega)]
    have hx : (elemCells l[k])[j]? = some (elemCells l[k])[j] := List.getElem?_eq_getElem (by omega)
    rw [hx] at e ⊢
    have := hc _ _ e
    rwa [← Nat.add_assoc] at this
  exact ⟨b, off, l[k], rfl, hb, hg, hcell 0 (by omega), hcell 1 (by omega), hcell 2 (by omega)⟩
def strF (l : List UInt8) : ByteArray := (l.map fun u => (u.toNat : Int)).foldl (fun r n => r.push (UInt8.ofNat n.toNat)) ByteArray.empty
theorem conv_str (w : World) (g n c : Nat) (l : List UInt8) (hl : l.length = n) (hb : Blk w g 5 (l.map bv).toArray) :
    (convert 31 9 (.slice (some ⟨g, 0, none⟩) n c)).run Tryd.prog w = .ok (.string (strF l)) w := by
  rw [run_convert_bytes_string w 31 9 5 _ n c Tryd.underlying31 Tryd.underlying5 Tryd.underlying9]
  refine run_bytesToString w ⟨g, 0, none⟩ n c (l.map fun u => (u.toNat : Int)) ?_
  have := run_loadCells_list (P := Tryd.prog) (w := w) ⟨g, 0, none⟩ (l.map bv) (fun j v hv => by
    have h1 := hb.cell j
    unfold Addr.add
    split
    · rename_i h0; subst h0; rw [h1]; simpa using hv
    · simp only [Nat.zero_add]; rw [h1]; simpa using hv)
  rw [List.length_map, hl] at this
  rw [this]
  simp [bv]
set_option maxHeartbeats 2000000 in
theorem text_any (A : Option Addr) (n c : Nat) (d : List GElem) (w : World) (ha : Reads w 3 A n (els d)) (hn : n ≤ 1000000) :
    Calls Tryd.prog 14 #[.slice A n c] w fun e w' => e = .returned (.string (strF (d.map (·.ch)))) ∧ Fr None' w w' := by
  have hl : d.length = n := by have := ha.1; rw [els_len] at this; omega
  have hlx : (d.map (·.ch)).length = n := by rw [List.length_map, hl]
  have hmk := run_mk w n n rfl (by omega)
  obtain ⟨Z, hZ⟩ : ∃ Z, Z = zeros n := ⟨_, rfl⟩
  rw [← hZ] at hmk
  have H0 : Hid (Blk (w.alloc (.cells Z.toArray 5)) w.heap.size 5 (((d.map (·.ch)).take 0).map bv ++ zeros (n - 0)).toArray ∧ Fr None' w (w.alloc (.cells Z.toArray 5))) := Lib.hid ⟨by subst hZ; simpa using Blk.new w 5 (zeros n).toArray, (Fr.refl _ _).alloc _⟩
  clear hZ
  go_enter Tryd.func14, Tryd.ntmps14
  go_wp2
  go_loopw [11] (fun i wr => ∃ k : Nat, k ≤ n ∧ i = .int .i64 (k : Int) ∧ Blk wr w.heap.size 5 (((d.map (·.ch)).take k).map bv ++ zeros (n - k)).toArray ∧ Fr None' w wr) (fun i _ => n - (intOf i).toNat)
  case atStart => exact ⟨0, Nat.zero_le _, rfl, H0.out.1, H0.out.2⟩
  case round =>
    clear H0 hmk
    obtain ⟨k, hk, rfl, hb, hf⟩ := hrel
    by_cases hlt : k < n
    · obtain ⟨b, off, u, rfl, hbb, hx, c0, c1, c2⟩ := el_at (ha.frn hf) hlt
      have hu : (d.map (·.ch))[k]? = some u.ch := by rw [List.getElem?_map, hx]; rfl
      have hc0 : ∃ v, wr.cell? ⟨w.heap.size, k, none⟩ = some v := by
        rw [hb.cell k]
        exact ⟨_, Array.getElem?_eq_getElem (by simp [zeros]; omega)⟩
      obtain ⟨v0, hv0⟩ := hc0
      have hfz := hb.frozen k
      have hblt := hb.lt
      have HN := Lib.hid (splice_step (d.map (·.ch)) n k u.ch hlt hu hlx)
      have HB := Lib.hid hb
      have HF := Lib.hid hf
      clear hb hf hu hx
      go_wp2
      go_round
      case rel => exact ⟨k + 1, by omega, by go_num, by have := HB.out.set_ k (bv u.ch); rw [HN.out] at this; exact this.alloc _, (HF.out.setCell (.inl (Nat.le_refl _)) _).alloc _⟩
      case measure => simp [intOf]; omega
    · have hkn : k = n := by omega
      subst hkn
      rw [List.take_of_length_le (by omega), Nat.sub_self] at hb
      have hb' : Blk wr w.heap.size 5 ((d.map (·.ch)).map bv).toArray := by simpa [zeros] using hb
      have hcv := conv_str wr w.heap.size k k (d.map (·.ch)) hlx hb'
      have HF := Lib.hid hf
      clear hb hb' hf
      obtain ⟨S, hS⟩ : ∃ S, S = strF (d.map (·.ch)) := ⟨_, rfl⟩
      rw [← hS] at hcv
      have HS := Lib.hid hS
      clear hS
      go_wp2
      go_ret
      exact ⟨by rw [← HS.out]; rfl, HF.out⟩
end Go.Proofs.YtodkhoclbhdihaaDoor
