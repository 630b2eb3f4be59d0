/-
  Contract of begun: a tap that has seen record 1.
-/
import Derived.Test.YtodkhoclbhdihaaDoorLaw4
namespace Go.Proofs.YtodkhoclbhdihaaDoor
open Go.RowKit

def T1 (n : Int) : GTap := ⟨n, 1, [(1, firstOp)], [((1, 1), 1)], []⟩
def firstL : List UInt8 := sealed (layB (flat firstM) (shape 5))
theorem first_enc : encF firstM = .ok firstL := by
  unfold encF firstL
  rw [if_neg (by decide)]
  have : firstBad (flat firstM) (shape firstM.kind.toNat) (if firstM.kind = 2 then firstM.client else 0) = none := by decide +kernel
  rw [this]
  rfl
theorem first_see (n : Int) (h1 : 1 ≤ n) : seeF (emptyT n) 0 1 firstL = ((0, 0), T1 n) := by
  have hb : ¬ badAdr (emptyT n).clients 0 1 := by
    unfold badAdr emptyT
    simp
    omega
  rw [see_msg hb (trip first_enc)]
  rfl
theorem first_known : knownF [(1, firstOp)] = [1] := by simp [knownF, sortI]
theorem first_stand : standF [(1, firstOp)] = ([firstOp], [⟨97, 1, 1⟩]) := by kernel_rfl
theorem none_known : knownF [] = [] := by simp [knownF, sortI]
theorem first_str : strF [97] = ⟨#[97]⟩ := by rfl

def FM : Value := .agg #[.int .i64 5, .int .i64 1, .int .i64 1, .int .i64 0, .int .i64 0, .int .i64 1, .int .i64 0, .int .i64 1, .int .i64 0, .int .i64 1, .int .i64 0, .int .u8 97, .int .i64 1, .int .i64 1]
theorem first_lit (w : World) : Calls Tryd.prog 10 #[] w fun e w' => e = .returned FM ∧ Fr None' w w' := first_any w
theorem sent_lit (B : Nat) (w : World) (hG : Glb B w) : Calls Tryd.prog 6 #[.int .i64 0, .int .i64 1, FM] w fun e w' =>
    ∃ g, e = .returned (.tuple #[.agg #[.int .i64 0, .int .i64 1, .slice (some ⟨g, 0, none⟩) firstL.length firstL.length, .bool false], .bool true]) ∧ w.heap.size ≤ g ∧ RB w' (some ⟨g, 0, none⟩) firstL.length firstL ∧ Fr None' w w' := by
  refine (sent_any B 0 1 firstM w hG).mono fun e w' h => ?_
  unfold SentPost at h
  rw [first_enc] at h
  obtain ⟨g, h1, h2, h3, h4⟩ := h
  exact ⟨g, h1, h2, h3.reads0 (by simp), h4⟩
theorem see_lit (B a r v e : Nat) (n : Int) (h1 : 1 ≤ n) (g : Nat) (w : World) (hG : Glb B w) (hT : TapAt w a r v e (emptyT n)) (ha : RB w (some ⟨g, 0, none⟩) firstL.length firstL) :
    Calls Tryd.prog 12 #[.pointer (some ⟨a, 0, none⟩), .agg #[.int .i64 0, .int .i64 1, .slice (some ⟨g, 0, none⟩) firstL.length firstL.length, .bool false]] w fun ev w' => ev = .returned .nilIface ∧ TapAt w' a r v e (T1 n) ∧ Fr (Its a r v e) w w' := by
  refine (see_any B a r v e (emptyT n) 0 1 (some ⟨g, 0, none⟩) firstL.length firstL.length firstL false w hG hT ha (Nat.le_refl _)).mono fun e w' h => ?_
  rw [first_see n h1] at h
  obtain ⟨X, h1, h2, h3, h4⟩ := h
  refine ⟨?_, h3, h4⟩
  rcases h2 with ⟨_, rfl⟩ | ⟨hne, _⟩
  · exact h1
  · exact absurd rfl hne

theorem ints_same (A B : Option Addr) (n m c d : Nat) (xs : List Int) (w : World) (ha : RI w A n xs) (hb : RI w B m xs) (hn : n ≤ 1000000) (hm : m ≤ 1000000) :
    Calls Tryd.prog 13 #[.slice A n c, .slice B m d] w fun e w' => e = .returned (.bool true) ∧ Fr None' w w' :=
  (ints_any A B n m c d xs xs w ha hb hn hm).mono fun e w' h => ⟨h.1.trans (by simp), h.2⟩
theorem lines_same (A B : Option Addr) (n m c d : Nat) (xs : List GOp) (w : World) (ha : Reads w 5 A n (ops xs)) (hb : Reads w 5 B m (ops xs)) (hn : n ≤ 1000000) (hm : m ≤ 1000000) :
    Calls Tryd.prog 16 #[.slice A n c, .slice B m d] w fun e w' => e = .returned (.bool true) ∧ Fr None' w w' :=
  (lines_any A B n m c d xs xs w ha hb hn hm).mono fun e w' h => ⟨h.1.trans (by simp), h.2⟩

theorem field9 (w : World) : (Instr.field 25 (.agg #[.int .i64 5, .int .i64 1, .int .i64 1, .int .i64 0, .int .i64 0, .int .i64 1, .int .i64 0, .int .i64 1, .int .i64 0, .int .i64 1, .int .i64 0, .int .u8 97, .int .i64 1, .int .i64 1]) 9).run Tryd.prog w = .ok (.agg #[.int .i64 1, .int .i64 0, .int .u8 97, .int .i64 1, .int .i64 1]) w := by kernel_rfl
theorem text_lit (A : Option Addr) (c : Nat) (w : World) (ha : Reads w 3 A 1 (els [⟨97, 1, 1⟩])) : Calls Tryd.prog 14 #[.slice A 1 c] w fun e w' => e = .returned (.string ⟨#[97]⟩) ∧ Fr None' w w' :=
  (text_any A 1 c [⟨97, 1, 1⟩] w ha (by omega)).mono fun e w' h => ⟨h.1.trans (by rw [← first_str]; rfl), h.2⟩

set_option maxHeartbeats 16000000 in
theorem begun_any (B : Nat) (n : Int) (w : World) (hG : Glb B w) (h1 : 1 ≤ n) (h64 : n ≤ 64) :
    Calls Tryd.prog 5 #[.int .i64 n] w fun ev w' => ∃ a r v e, ev = .returned (.pointer (some ⟨a, 0, none⟩)) ∧ TapAt w' a r v e (T1 n) ∧ (∀ k, Its a r v e k → w.heap.size ≤ k) ∧ Fr None' w w' := by
  have HN := Lib.hid (new_any n w h1 h64)
  have HG := Lib.hid hG
  have H1 := Lib.hid h1
  clear hG h1 h64
  go_enter Tryd.func5, Tryd.ntmps5
  go_wp2_with fail
  refine HN.out.mono ?_
  rintro e1 w1 ⟨a, r, v, e, rfl, hT, hlo, hf⟩
  dsimp only
  have HLo := Lib.hid hlo
  have HT1 := Lib.hid hT
  have HF1 := Lib.hid hf
  clear hT hlo hf HN
  go_wp2_with fail
  refine (first_lit _).mono ?_
  rintro e2 w2 ⟨rfl, hf⟩
  dsimp only
  have HT2 := Lib.hid (HT1.out.frn hf)
  have HF2 := Lib.hid (HF1.out.trans' hf)
  clear hf HT1 HF1
  go_wp2_with fail
  refine (sent_lit B _ (HG.out.fr HF2.out fun _ h => h.elim)).mono ?_
  rintro e3 w3 ⟨g, rfl, hg, hrb, hf⟩
  dsimp only
  have HT3 := Lib.hid (HT2.out.frn hf)
  have HF3 := Lib.hid (HF2.out.trans' hf)
  have HRB := Lib.hid hrb
  clear hf hg hrb HT2 HF2
  obtain ⟨w4, hw4⟩ : ∃ w4, w4 = w3.alloc (.cells #[.int .i64 0, .int .i64 1, .slice (some ⟨g, 0, none⟩) firstL.length firstL.length, .bool false] 33) := ⟨_, rfl⟩
  have hx4 : Fr None' w3 w4 := by rw [hw4]; exact (Fr.refl _ _).alloc _
  have hD4 : Blk w4 w3.heap.size 33 #[.int .i64 0, .int .i64 1, .slice (some ⟨g, 0, none⟩) firstL.length firstL.length, .bool false] := by rw [hw4]; exact Blk.new _ _ _
  have HW4 := Lib.hid hw4
  have HT4 := Lib.hid (HT3.out.frn hx4)
  have HF4 := Lib.hid (HF3.out.trans' hx4)
  have HRB4 := Lib.hid (HRB.out.frn hx4)
  have HD4 := Lib.hid hD4
  clear hw4 hx4 hD4 HT3 HF3 HRB
  go_wp2_with fail
  rw [← HW4.out]
  refine (epoch_any a r v e _ _ HT4.out).mono ?_
  rintro e4 w5 ⟨rfl, rfl⟩
  dsimp only [emptyT]
  go_wp2_with fail
  refine (known_any a r v e _ _ HT4.out (by simp [emptyT])).mono ?_
  rintro e5 w5 ⟨A5, c5, rfl, _, hk5, _, hf⟩
  dsimp only [emptyT, List.length_nil]
  have HT5 := Lib.hid (HT4.out.frn hf)
  have HF5 := Lib.hid (HF4.out.trans' hf)
  have HRB5 := Lib.hid (HRB4.out.frn hf)
  have hD5 := HD4.out.fr hf fun h => h
  have y5 : ∀ i, w5.cell? ⟨w3.heap.size, i, none⟩ = (#[.int .i64 0, .int .i64 1, .slice (some ⟨g, 0, none⟩) firstL.length firstL.length, .bool false] : Array Value)[i]? := fun i => Blk.cell hD5 i
  clear hf hD5 hk5
  go_wp2_with fail
  refine (see_lit B a r v e n H1.out g _ (HG.out.fr HF5.out fun _ h => h.elim) HT5.out HRB5.out).mono ?_
  rintro e6 w6 ⟨rfl, hT6, hf⟩
  dsimp only
  have HT6 := Lib.hid hT6
  have HF6 := Lib.hid (HF5.out.trans hf fun i hi hs => by have := HLo.out i hs; omega)
  clear hT6 hf y5 HT5 HT4 HF5 HF4 HRB5 HRB4 HD4 HW4
  go_wp2_with fail
  refine (epoch_any a r v e _ _ HT6.out).mono ?_
  rintro e4 w7 ⟨rfl, rfl⟩
  dsimp only [T1]
  go_wp2_with fail
  refine (known_any a r v e _ _ HT6.out (by simp [T1])).mono ?_
  rintro e5 w7 ⟨A7, c7, rfl, hc7, hk7, hft7, hf⟩
  dsimp only [T1, List.length_cons, List.length_nil]
  have hk7' : RI w7 A7 1 [1] := by have := hk7; unfold T1 at this; dsimp only at this; rw [first_known] at this; exact this
  have HT7 := Lib.hid (HT6.out.frn hf)
  have HF7 := Lib.hid (HF6.out.trans' hf)
  have hx : Fr None' w7 (w7.alloc (.cells #[.int .i64 1] 3)) := (Fr.refl _ _).alloc _
  have HI := Lib.hid (ints_same A7 (some ⟨w7.heap.size, 0, none⟩) 1 1 c7 1 [1] _ (hk7'.frn hx) (one_reads w7 INT [.int .i64 1]) (by omega) (by omega))
  clear hf hk7 hk7' hc7 hft7 hx HT6 HF6
  go_wp2_with fail
  refine HI.out.mono ?_
  rintro e8 w8 ⟨rfl, hf⟩
  dsimp only
  have HT8 := Lib.hid ((HT7.out.frn ((Fr.refl _ _).alloc _)).frn hf)
  have HF8 := Lib.hid ((HF7.out.alloc _).trans' hf)
  clear hf HI HT7 HF7
  go_wp2_with fail
  refine (doc_any a r v e _ _ HT8.out (by simp [T1])).mono ?_
  rintro e9 w9 ⟨vt, rfl, ho, hf⟩
  dsimp only
  have ho' : w9.ownsRow w8.heap.size ET 3 vt 1 (els [⟨97, 1, 1⟩]) := by have := ho; unfold T1 at this; dsimp only at this; rw [first_stand] at this; exact this
  obtain ⟨A9, c9, rfl, _, hr9, _⟩ := own_reads ho'
  have HX := Lib.hid (text_lit A9 c9 w9 hr9)
  have HT9 := Lib.hid (HT8.out.frn hf)
  have HF9 := Lib.hid (HF8.out.trans' hf)
  clear hf ho ho' hr9 HT8 HF8
  go_wp2_with fail
  refine HX.out.mono ?_
  rintro e10 w10 ⟨rfl, hf⟩
  dsimp only
  have HT10 := Lib.hid (HT9.out.frn hf)
  have HF10 := Lib.hid (HF9.out.trans' hf)
  clear hf HX HT9 HF9
  go_wp2_with fail
  refine (records_any a r v e _ _ HT10.out (by simp [T1])).mono ?_
  rintro e11 w11 ⟨vl, rfl, ho, hf⟩
  dsimp only
  have ho' : w11.ownsRow w10.heap.size OPT 5 vl 1 (ops [firstOp]) := by have := ho; unfold T1 at this; dsimp only at this; rw [first_stand] at this; exact this
  obtain ⟨A11, c11, rfl, _, hr11, _⟩ := own_reads ho'
  have HT11 := Lib.hid (HT10.out.frn hf)
  have HF11 := Lib.hid (HF10.out.trans' hf)
  have HR11 := Lib.hid hr11
  clear hf ho ho' hr11 HT10 HF10
  go_wp2_with fail
  refine (first_lit _).mono ?_
  rintro e12 w12 ⟨rfl, hf⟩
  unfold FM
  dsimp only
  have HT12 := Lib.hid (HT11.out.frn hf)
  have HF12 := Lib.hid (HF11.out.trans' hf)
  have hx : Fr None' w12 (w12.alloc (.cells #[.int .i64 1, .int .i64 0, .int .u8 97, .int .i64 1, .int .i64 1] 23)) := (Fr.refl _ _).alloc _
  have HL := Lib.hid (lines_same A11 (some ⟨w12.heap.size, 0, none⟩) 1 1 c11 1 [firstOp] _ ((HR11.out.frn hf).frn hx) (one_reads w12 OPT [.int .i64 1, .int .i64 0, .int .u8 97, .int .i64 1, .int .i64 1]) (by omega) (by omega))
  clear hf hx HR11 HT11 HF11
  have f9 := field9
  go_wp2_with fail
  refine HL.out.mono ?_
  rintro e13 w13 ⟨rfl, hf⟩
  dsimp only
  have HT13 := Lib.hid ((HT12.out.frn ((Fr.refl _ _).alloc _)).frn hf)
  have HF13 := Lib.hid ((HF12.out.alloc _).trans' hf)
  clear hf HL HT12 HF12
  go_wp2
  go_ret
  exact ⟨a, r, v, e, rfl, HT13.out, HLo.out, HF13.out⟩
end Go.Proofs.YtodkhoclbhdihaaDoor
