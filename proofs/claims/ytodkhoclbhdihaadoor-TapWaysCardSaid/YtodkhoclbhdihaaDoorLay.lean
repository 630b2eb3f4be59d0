/-
  Contract of wire's lay: a message's bytes.
-/
import Derived.Test.YtodkhoclbhdihaaDoorWire
import Derived.Laws.EntriesVeiled
import Derived.Test.YtodkhoclbhdihaaDoorTail
namespace Go.Proofs.YtodkhoclbhdihaaDoor
open Go.RowKit

/-! ### bytes of a message -/
theorem layB_take {v : V} {sh : List Nat} {k f : Nat} (h : sh[k]? = some f) : layB v (sh.take (k + 1)) = layB v (sh.take k) ++ fieldB v f := by
  unfold layB
  rw [List.take_add_one, h]
  simp
theorem Foot.blk {g n k : Nat} (h : Foot (some ⟨g, 0, none⟩) n k) : k = g := by
  obtain ⟨_, a, ha, rfl⟩ := h
  cases ha
  rfl
theorem NewB.rb {w w' : World} {v : Value} {l : List UInt8} (h : NewB w w' v l) : ∃ g, w.heap.size ≤ g ∧ v = .slice (some ⟨g, 0, none⟩) l.length l.length ∧ RB w' (some ⟨g, 0, none⟩) l.length l := by
  obtain ⟨g, hg, hv, hb⟩ := h
  exact ⟨g, hg, hv, hb.reads0 (by simp)⟩

abbrev PT : TypeId := 118
theorem sz_12 (f : Nat) (h : f < 14) : sz f = 1 ∨ sz f = 2 := by
  unfold sz
  match f, h with
  | 0, _ | 1, _ | 2, _ | 3, _ | 4, _ | 5, _ | 6, _ | 7, _ | 8, _ | 9, _ | 10, _ | 11, _ | 12, _ | 13, _ => decide
def puts : Array Value := #[.nilFunc, .func (.func 45) #[] #[], .func (.func 46) #[] #[]]

theorem u64_nat (x : Int) (h : 0 ≤ x) : x = ((x.toNat : Nat) : Int) := by omega

set_option maxHeartbeats 2000000 in
theorem lay_any (g : Nat) (v : V) (A : Option Addr) (n c : Nat) (sh : List Nat) (w : World) (hG : SizeG w) (hv : Vals w g v) (ha : RN w A n sh) (hs : ∀ f ∈ sh, f < 14) (hp : ∀ f ∈ sh, 0 ≤ v f ∧ v f ≤ 65535) (h0 : 0 ≤ v 0) (h1 : v 0 ≤ 255) (hn : n ≤ 100) :
    Calls Tryd.prog 32 #[.pointer (some ⟨g, 0, none⟩), .slice A n c] w fun e w' => ∃ r, e = .returned r ∧ NewB w w' r (layB v sh) ∧ Fr None' w w' := by
  have HL := Lib.hid ha.len
  have c0 := hv.at_ 0 (by omega)
  have hlt : g < w.heap.size := Blk.lt hv
  have hf0 : Fr None' w (w.alloc (.cells puts PT)) := (Fr.refl _ _).alloc _
  obtain ⟨z, hz⟩ : ∃ z : Nat, v 0 = z := ⟨(v 0).toNat, by omega⟩
  have Hp := Lib.hid (put8_any none 0 0 z [] (w.alloc (.cells puts PT)) Reads.nil (by omega))
  have hbp : Blk (w.alloc (.cells puts PT)) w.heap.size PT puts := Blk.new _ _ _
  have HBP := Lib.hid hbp
  have HZ : Hid (layB v (sh.take 0) = [] ++ [lo8 z]) := by
    show layB v (sh.take 0) = [] ++ [lo8 z]
    simp [layB, hz]
  rw [hz] at c0 h0 h1
  clear hz hbp
  unfold puts at *
  go_enter Tryd.func32, Tryd.ntmps32
  go_wp2_with fail
  refine Hp.out.mono ?_
  rintro e w1 ⟨r0, rfl, hnb, hf1⟩
  obtain ⟨gb, hgb, rfl, hb1⟩ := hnb
  have HB1 := Lib.hid hb1
  have HF1 := Lib.hid (hf0.trans' hf1)
  have HP1 := Lib.hid (HBP.out.fr hf1 (fun h => h))
  have hgb' : w.heap.size ≤ gb := Nat.le_trans hf0.size hgb
  clear hf1 hb1 hf0 c0 hgb Hp
  go_wp2
  go_loopw [6, 18] (fun r i wr => ∃ k gb : Nat, k ≤ n ∧ i = .int .i64 k ∧ r = .slice (some ⟨gb, 0, none⟩) (layB v (sh.take k)).length (layB v (sh.take k)).length ∧ (layB v (sh.take k)).length ≤ 1 + 2 * k ∧ w.heap.size ≤ gb ∧ Blk wr gb 5 ((layB v (sh.take k)).map bv).toArray ∧ Blk wr w.heap.size PT #[.nilFunc, .func (.func 45) #[] #[], .func (.func 46) #[] #[]] ∧ Fr None' w wr) (fun _ i _ => n - (intOf i).toNat)
  case atStart => exact ⟨0, gb, Nat.zero_le _, rfl, by rw [HZ.out]; rfl, by rw [HZ.out]; simp, hgb', by rw [HZ.out]; exact HB1.out, HP1.out, HF1.out⟩
  case round =>
    clear HZ HB1 HF1 HP1 HBP hgb'
    obtain ⟨k, gb, hk, rfl, rfl, hlen, hgb, hb, hbp, hf⟩ := hrel
    by_cases hlt : k < n
    · obtain ⟨b, off, f, rfl, hbb, hx, hc⟩ := RN.at_ (ha.frn hf) hlt
      have hfm : f ∈ sh := List.mem_of_getElem? hx
      have hfl : f < 14 := hs f hfm
      have hcs := hG.fr hf (fun h => h) f hfl
      have hcv := (hv.fr hf fun h => h).at_ f hfl
      have hp1 := (hp f hfm).1
      have hp2 := (hp f hfm).2
      have HX := Lib.hid (layB_take (v := v) hx)
      have hx1 : (f : Int) < 14 := by omega
      obtain ⟨x, hxv⟩ : ∃ x : Nat, v f = x := ⟨(v f).toNat, by omega⟩
      have HV : Hid (fieldB v f = if sz f = 2 then [lo8 (x / 256), lo8 x] else [lo8 x]) := by
        show fieldB v f = _
        unfold fieldB
        rw [hxv, Int.toNat_natCast]
      rw [hxv] at hcv hp1 hp2
      clear hx hfm hxv
      have hrb := hb.reads0 (size := 1) (n := (layB v (sh.take k)).length) (by simp)
      have hrb' : RB wr (some ⟨gb, 0, none⟩) (layB v (sh.take k)).length (layB v (sh.take k)) := by simpa using hrb
      clear hrb
      generalize layB v (sh.take k) = l at *
      have HF := Lib.hid hf
      have HBP := Lib.hid hbp
      have p1 := hbp.cell 1
      have p2 := hbp.cell 2
      clear hb hbp hf
      obtain hsz | hsz := sz_12 f hfl
      · have Hc := Lib.hid (put8_any (some ⟨gb, 0, none⟩) l.length l.length x l wr.drew (hrb'.frn (Fr.refl _ _).drew) (by omega))
        rw [hsz] at hcs HV
        have HW := HV.out
        simp only [show ¬ (1 : Nat) = 2 from by omega, if_false] at HW
        have HN : Hid (layB v (sh.take (k + 1)) = l ++ [lo8 x]) := by
          rw [← HW]
          exact HX.out
        clear hsz hrb' HW
        go_wp2
        refine wp_region_tail 12 (by kernel_rfl) (by kernel_rfl) ?_
        simp only [List.take_succ_cons, List.take_zero, List.drop_succ_cons, List.drop_zero]
        repeat (go_big_quiet_step (fail))
        refine wpQuiet_nil ?_
        go_wp2_with fail
        refine Hc.out.mono ?_
        rintro e w2 ⟨r2, rfl, hnb, hf2⟩
        obtain ⟨gb2, hgb2, rfl, hb2⟩ := hnb
        have HF2 := Lib.hid ((HF.out.drew).trans' hf2)
        have HBP2 := Lib.hid (HBP.out.fr (w' := w2) ((Fr.refl None' wr).drew.trans' hf2) (fun h => h))
        have hgb3 : w.heap.size ≤ gb2 := Nat.le_trans HF.out.size hgb2
        have HB2 := Lib.hid hb2
        clear hf2 hb2 hgb2
        rw [← HN.out] at HB2 ⊢
        have hlen2 : (layB v (sh.take (k + 1))).length ≤ 1 + 2 * (k + 1) := by
          rw [HN.out]
          simp
          omega
        go_wp2
        go_roundw
        case rel => exact ⟨k + 1, gb2, by omega, by go_num, rfl, hlen2, hgb3, HB2.out, HBP2.out, HF2.out⟩
        case measure => simp [intOf]; omega
      · have Hc := Lib.hid (put16_any (some ⟨gb, 0, none⟩) l.length l.length x l wr.drew (hrb'.frn (Fr.refl _ _).drew) (by omega))
        rw [hsz] at hcs HV
        have HW := HV.out
        simp only [if_true] at HW
        have HN : Hid (layB v (sh.take (k + 1)) = l ++ [lo8 (x / 256), lo8 x]) := by
          rw [← HW]
          exact HX.out
        clear hsz hrb' HW
        go_wp2
        refine wp_region_tail 12 (by kernel_rfl) (by kernel_rfl) ?_
        simp only [List.take_succ_cons, List.take_zero, List.drop_succ_cons, List.drop_zero]
        repeat (go_big_quiet_step (fail))
        refine wpQuiet_nil ?_
        go_wp2_with fail
        refine Hc.out.mono ?_
        rintro e w2 ⟨r2, rfl, hnb, hf2⟩
        obtain ⟨gb2, hgb2, rfl, hb2⟩ := hnb
        have HF2 := Lib.hid ((HF.out.drew).trans' hf2)
        have HBP2 := Lib.hid (HBP.out.fr (w' := w2) ((Fr.refl None' wr).drew.trans' hf2) (fun h => h))
        have hgb3 : w.heap.size ≤ gb2 := Nat.le_trans HF.out.size hgb2
        have HB2 := Lib.hid hb2
        clear hf2 hb2 hgb2
        rw [← HN.out] at HB2 ⊢
        have hlen2 : (layB v (sh.take (k + 1))).length ≤ 1 + 2 * (k + 1) := by
          rw [HN.out]
          simp
          omega
        go_wp2
        go_roundw
        case rel => exact ⟨k + 1, gb2, by omega, by go_num, rfl, hlen2, hgb3, HB2.out, HBP2.out, HF2.out⟩
        case measure => simp [intOf]; omega
    · have HN : Hid (sh.take k = sh) := List.take_of_length_le (by have := HL.out; omega)
      rw [HN.out] at hb hlen ⊢
      have HB := Lib.hid hb
      have HF := Lib.hid hf
      clear hb hf hbp
      go_wp2
      go_ret
      exact ⟨_, rfl, ⟨gb, hgb, rfl, HB.out⟩, HF.out⟩
end Go.Proofs.YtodkhoclbhdihaaDoor
