/-
  TapTwo, walked: every case gives true.
-/
import Derived.Test.YtodkhoclbhdihaaGreatDoorZ14
import Derived.Test.YtodkhoclbhdihaaGreatDoorZ12
import Derived.Deep.DeepCutAuto
namespace Go.Proofs.YtodkhoclbhdihaaGreatDoor
open Go.RowKit

set_option maxRecDepth 100000 in
set_option maxHeartbeats 64000000 in
theorem two_any (B : Nat) (c : GCase) (w : World) (hG : Glb B w) : Calls Tryz.prog 7 #[caseV c] w fun ev w' => ev = .returned (.bool true) ∧ Fr None' w w' := by
  have Hmd := Lib.hid (made_case c)
  have Hsp := Lib.hid (spoilt_case c)
  have HG := Lib.hid hG
  have hrv := cRev_in c
  have HRV := Lib.hid hrv
  unfold e6 o5 at Hmd Hsp
  unfold caseV at *
  clear hG
  have e1 : IntKind.i64.wrap (cRev c + 1) = cRev c + 1 := IntWalk.i64_in _ (by omega)
  go_enter Tryz.func7, Tryz.ntmps7
  go_wp2_with fail
  refine (Hmd.out _).mono ?_
  rintro ev1 w1 ⟨rfl, h1⟩
  dsimp only
  have hC0 : Blk w1 w.heap.size 65 #[.bool c.out, .bool c.gone, .int .i64 c.tag, .int .i64 c.pos, .int .u8 (c.ch.toNat : Int), .int .i64 c.seq, .int .i64 c.rev, .int .i64 c.way] := (Blk.new _ _ _).fr h1 fun h => h
  have hF1 : Fr None' w w1 := ((Fr.refl _ _).alloc _).trans' h1
  have y1 := fun i => Blk.cell hC0 i
  have l1 := hC0.lt
  have HC0 := Lib.hid hC0
  have HF1 := Lib.hid hF1
  clear hC0 hF1 h1
  go_wp2_with fail
  refine (Hsp.out _).mono ?_
  rintro ev2 w2 ⟨rfl, h2⟩
  dsimp only
  have hC2 := HC0.out.fr (w' := w2) (S := None') (((Fr.refl _ _).alloc _ |>.alloc _).trans' h2) fun h => h
  have hE2 : Blk w2 w1.heap.size 67 #[.int .i64 (cEd c).tag, .int .i64 (cEd c).op.kind, .int .i64 (cEd c).op.pos, .int .u8 ((cEd c).op.ch.toNat : Int), .int .i64 (cEd c).op.client, .int .i64 (cEd c).op.seq] := ((Blk.new _ _ _).alloc _).fr h2 fun h => h
  have hR2 : Blk w2 (w1.heap.size + 1) 26 #[.int .i64 (cRec c).kind, .int .i64 (cRec c).pos, .int .u8 ((cRec c).ch.toNat : Int), .int .i64 (cRec c).client, .int .i64 (cRec c).seq] := by
    have := (Blk.new (w1.alloc (.cells #[.int .i64 (cEd c).tag, .int .i64 (cEd c).op.kind, .int .i64 (cEd c).op.pos, .int .u8 ((cEd c).op.ch.toNat : Int), .int .i64 (cEd c).op.client, .int .i64 (cEd c).op.seq] 67)) 26 #[.int .i64 (cRec c).kind, .int .i64 (cRec c).pos, .int .u8 ((cRec c).ch.toNat : Int), .int .i64 (cRec c).client, .int .i64 (cRec c).seq]).fr h2 fun h => h
    simpa only [World.size_alloc] using this
  have hF2 : Fr None' w w2 := (HF1.out.alloc _).alloc _ |>.trans' h2
  have HC2 := Lib.hid hC2
  have HE2 := Lib.hid hE2
  have HR2 := Lib.hid hR2
  have HF2 := Lib.hid hF2
  have HL1 := Lib.hid l1
  have y2 := fun i => Blk.cell hE2 i
  have y3 := fun i => Blk.cell hR2 i
  have l2 := hE2.lt
  have l3 := hR2.lt
  clear hC2 hE2 hR2 hF2 h2 y1 l1 HC0 HF1 Hmd Hsp
  generalize w1.heap.size = b at *
  have n1 : b < w2.heap.size + 1 := by omega
  have n2 : b < w2.heap.size + 1 + 1 := by omega
  have n3 : b < w2.heap.size + 1 + 1 + 1 := by omega
  have n4 : b + 1 < w2.heap.size + 1 := by omega
  have n5 : b + 1 < w2.heap.size + 1 + 1 := by omega
  have n6 : b + 1 < w2.heap.size + 1 + 1 + 1 := by omega

  have ht : 0 ≤ (cEd c).tag ∧ (cEd c).tag ≤ 4096 := by show 0 ≤ c.tag % 4097 ∧ c.tag % 4097 ≤ 4096; omega
  have hp : 0 ≤ (cEd c).op.pos ∧ (cEd c).op.pos ≤ 3999 := by show 0 ≤ c.pos % 4000 ∧ c.pos % 4000 ≤ 3999; omega
  have hp2 := cRec_pos c
  have e2 : IntKind.i64.wrap ((cEd c).tag + 1) = (cEd c).tag + 1 := IntWalk.i64_in _ (by omega)
  have e3 : ((cEd c).tag + 1).tmod 4097 = (cLate c).tag := by rw [Int.tmod_eq_emod_of_nonneg (by omega)]; rfl
  have e4 : IntKind.i64.wrap ((cEd c).op.pos + 1) = (cMoved c).op.pos := IntWalk.i64_in _ (by omega)
  have e5 : IntKind.i64.wrap ((cRec c).pos + 1) = (cPlace c).pos := IntWalk.i64_in _ (by omega)
  have ht2 : 0 ≤ (cLate c).tag ∧ (cLate c).tag ≤ 4096 := by show 0 ≤ (c.tag % 4097 + 1) % 4097 ∧ (c.tag % 4097 + 1) % 4097 ≤ 4096; omega
  have HTG := Lib.hid (And.intro ht ht2)
  clear ht ht2 hp hp2
  have hcl : (cRec c).client = 1 := congrArg Prod.fst (cName c).2.1
  have hsq : (cRec c).seq = cSeq c := congrArg Prod.snd (cName c).2.1
  have HCL := Lib.hid (And.intro hcl hsq)
  clear hcl hsq
  obtain ⟨N, hN⟩ : ∃ N, N = 1 + c.seq % 64 := ⟨_, rfl⟩
  have hN1 : 1 ≤ N ∧ N ≤ 64 := by omega
  have eN : IntKind.i64.wrap (1 + c.seq % 64) = N := by rw [hN]; exact IntWalk.i64_in _ (by omega)
  have HN := Lib.hid hN1
  clear hN hN1
  have K1 : Hid (∀ a r v e w, Glb B w → (∀ k, Its a r v e k → B ≤ k) → TapAt w a r v e (T1 N) → Calls Tryz.prog 31 #[.pointer (some ⟨a, 0, none⟩), .int .i64 3, .agg #[.int .i64 (cEd c).tag, .int .i64 (cEd c).op.kind, .int .i64 (cEd c).op.pos, .int .u8 ((cEd c).op.ch.toNat : Int), .int .i64 (cEd c).op.client, .int .i64 (cEd c).op.seq]] w fun ev w' => Took w a r v e 0 (stE N c) ev w') := Lib.hid fun a r v e w hG hB hT => by
    rw [← (two_e1 N c).2]
    exact edit_fits (by omega) HTG.out.1 (cOp_ok c) rfl (by first | exact HN.out.1 | exact (by decide : (1 : Int) ≤ 2)) (two_e1 N c).1 w hG hB hT
  have K3 : Hid (∀ a r v e w, Glb B w → (∀ k, Its a r v e k → B ≤ k) → TapAt w a r v e (stE N c) → Calls Tryz.prog 13 #[.pointer (some ⟨a, 0, none⟩), .int .i64 (cRev c), .agg #[.int .i64 (cBad c).kind, .int .i64 (cBad c).pos, .int .u8 ((cBad c).ch.toNat : Int), .int .i64 (cBad c).client, .int .i64 (cBad c).seq]] w fun ev w' => Took w a r v e 280 (stE N c) ev w') := Lib.hid fun a r v e w hG hB hT => by
    exact record_two (o := cBad c) ⟨by have := HRV.out; omega, HRV.out.2⟩ (cBad_ok c) (by first | exact HN.out.1 | exact (by decide : (1 : Int) ≤ 2)) (two_e2 N c) w hG hB hT
  have K4 : Hid (∀ a r v e w, Glb B w → (∀ k, Its a r v e k → B ≤ k) → TapAt w a r v e (stE N c) → Calls Tryz.prog 13 #[.pointer (some ⟨a, 0, none⟩), .int .i64 (cRev c), .agg #[.int .i64 (cRec c).kind, .int .i64 (cRec c).pos, .int .u8 ((cRec c).ch.toNat : Int), .int .i64 (cRec c).client, .int .i64 (cRec c).seq]] w fun ev w' => Took w a r v e 0 (stB N c) ev w') := Lib.hid fun a r v e w hG hB hT => by
    rw [← (two_e3 N c).2]
    exact record_fits ⟨by have := HRV.out; omega, HRV.out.2⟩ (cRec_ok c) (by first | exact HN.out.1 | exact (by decide : (1 : Int) ≤ 2)) (two_e3 N c).1 w hG hB hT
  have K5 : Hid (∀ a r v e w, Glb B w → (∀ k, Its a r v e k → B ≤ k) → TapAt w a r v e (stB N c) → Calls Tryz.prog 31 #[.pointer (some ⟨a, 0, none⟩), .int .i64 4, .agg #[.int .i64 (cEd c).tag, .int .i64 (cEd c).op.kind, .int .i64 (cEd c).op.pos, .int .u8 ((cEd c).op.ch.toNat : Int), .int .i64 (cEd c).op.client, .int .i64 (cEd c).op.seq]] w fun ev w' => Took w a r v e 0 (stB N c) ev w') := Lib.hid fun a r v e w hG hB hT => by
    have h := edit_fits (num := 4) (x := cEd c) (by omega) HTG.out.1 (cOp_ok c) rfl (T := stB N c) HN.out.1 (two_e4 N c).1 w hG hB hT
    rw [(two_e4 N c).2] at h
    exact h
  have K6 : Hid (∀ a r v e w, Glb B w → (∀ k, Its a r v e k → B ≤ k) → TapAt w a r v e (T1 N) → Calls Tryz.prog 13 #[.pointer (some ⟨a, 0, none⟩), .int .i64 (cRev c), .agg #[.int .i64 (cRec c).kind, .int .i64 (cRec c).pos, .int .u8 ((cRec c).ch.toNat : Int), .int .i64 (cRec c).client, .int .i64 (cRec c).seq]] w fun ev w' => Took w a r v e 0 (stR N c (cRec c)) ev w') := Lib.hid fun a r v e w hG hB hT => by
    rw [← (two_r1 N c (cRec c) (cName c).2.1).2]
    exact record_fits ⟨by have := HRV.out; omega, HRV.out.2⟩ (cRec_ok c) (by first | exact HN.out.1 | exact (by decide : (1 : Int) ≤ 2)) (two_r1 N c (cRec c) (cName c).2.1).1 w hG hB hT
  have K7 : Hid (∀ a r v e w, Glb B w → (∀ k, Its a r v e k → B ≤ k) → TapAt w a r v e (stR N c (cRec c)) → Calls Tryz.prog 31 #[.pointer (some ⟨a, 0, none⟩), .int .i64 3, .agg #[.int .i64 (cEd c).tag, .int .i64 (cEd c).op.kind, .int .i64 (cEd c).op.pos, .int .u8 ((cEd c).op.ch.toNat : Int), .int .i64 (cEd c).op.client, .int .i64 (cEd c).op.seq]] w fun ev w' => Took w a r v e 0 (stB N c) ev w') := Lib.hid fun a r v e w hG hB hT => by
    rw [← (two_r2 N c).2]
    exact edit_fits (by omega) HTG.out.1 (cOp_ok c) rfl (by first | exact HN.out.1 | exact (by decide : (1 : Int) ≤ 2)) (two_r2 N c).1 w hG hB hT
  have K8 : Hid (∀ a r v e w, Glb B w → (∀ k, Its a r v e k → B ≤ k) → TapAt w a r v e (stB N c) → Calls Tryz.prog 13 #[.pointer (some ⟨a, 0, none⟩), .int .i64 (cRev c), .agg #[.int .i64 (cRec c).kind, .int .i64 (cRec c).pos, .int .u8 ((cRec c).ch.toNat : Int), .int .i64 (cRec c).client, .int .i64 (cRec c).seq]] w fun ev w' => Took w a r v e 0 (stB N c) ev w') := Lib.hid fun a r v e w hG hB hT => by
    have h := record_fits (rev := cRev c) (o := cRec c) ⟨by have := HRV.out; omega, HRV.out.2⟩ (cRec_ok c) (T := stB N c) HN.out.1 (two_r3 N c).1 w hG hB hT
    rw [(two_r3 N c).2] at h
    exact h
  have X1 : Hid (∀ a r v e w, Glb B w → (∀ k, Its a r v e k → B ≤ k) → TapAt w a r v e (stB N c) → Calls Tryz.prog 13 #[.pointer (some ⟨a, 0, none⟩), .int .i64 (cOther c), .agg #[.int .i64 (cRec c).kind, .int .i64 (cRec c).pos, .int .u8 ((cRec c).ch.toNat : Int), .int .i64 (cRec c).client, .int .i64 (cRec c).seq]] w fun ev w' => Took w a r v e 280 (stB N c) ev w') := Lib.hid fun a r v e w hG hB hT => by
    exact record_two (o := cRec c) (by have := cOther_in c; omega) (cRec_ok c) (by first | exact HN.out.1 | exact (by decide : (1 : Int) ≤ 2)) (two_x1 N c) w hG hB hT
  have X2 : Hid (∀ a r v e w, Glb B w → (∀ k, Its a r v e k → B ≤ k) → TapAt w a r v e (stB N c) → Calls Tryz.prog 13 #[.pointer (some ⟨a, 0, none⟩), .int .i64 1, .agg #[.int .i64 (cRec c).kind, .int .i64 (cRec c).pos, .int .u8 ((cRec c).ch.toNat : Int), .int .i64 (cRec c).client, .int .i64 (cRec c).seq]] w fun ev w' => Took w a r v e 280 (stB N c) ev w') := Lib.hid fun a r v e w hG hB hT => by
    exact record_two (o := cRec c) (by omega) (cRec_ok c) (by first | exact HN.out.1 | exact (by decide : (1 : Int) ≤ 2)) (two_x2 N c) w hG hB hT
  have X3 : Hid (∀ a r v e w, Glb B w → (∀ k, Its a r v e k → B ≤ k) → TapAt w a r v e (stB N c) → Calls Tryz.prog 13 #[.pointer (some ⟨a, 0, none⟩), .int .i64 (cRev c), .agg #[.int .i64 1, .int .i64 0, .int .u8 97, .int .i64 1, .int .i64 1]] w fun ev w' => Took w a r v e 280 (stB N c) ev w') := Lib.hid fun a r v e w hG hB hT => by
    exact record_two (o := firstOp) ⟨by have := HRV.out; omega, HRV.out.2⟩ (by refine ⟨?_, ?_, ?_, ?_, ?_⟩ <;> decide) (by first | exact HN.out.1 | exact (by decide : (1 : Int) ≤ 2)) (two_x3 N c) w hG hB hT
  have X4 : Hid (∀ a r v e w, Glb B w → (∀ k, Its a r v e k → B ≤ k) → TapAt w a r v e (stB N c) → Calls Tryz.prog 13 #[.pointer (some ⟨a, 0, none⟩), .int .i64 (cRev c), .agg #[.int .i64 (cBad c).kind, .int .i64 (cBad c).pos, .int .u8 ((cBad c).ch.toNat : Int), .int .i64 (cBad c).client, .int .i64 (cBad c).seq]] w fun ev w' => Took w a r v e 280 (stB N c) ev w') := Lib.hid fun a r v e w hG hB hT => by
    exact record_two (o := cBad c) ⟨by have := HRV.out; omega, HRV.out.2⟩ (cBad_ok c) (by first | exact HN.out.1 | exact (by decide : (1 : Int) ≤ 2)) (two_x4 N c) w hG hB hT
  have X5 : Hid (∀ a r v e w, Glb B w → (∀ k, Its a r v e k → B ≤ k) → TapAt w a r v e (stB N c) → Calls Tryz.prog 31 #[.pointer (some ⟨a, 0, none⟩), .int .i64 3, .agg #[.int .i64 (cLate c).tag, .int .i64 (cEd c).op.kind, .int .i64 (cEd c).op.pos, .int .u8 ((cEd c).op.ch.toNat : Int), .int .i64 (cEd c).op.client, .int .i64 (cEd c).op.seq]] w fun ev w' => Took w a r v e 280 (stB N c) ev w') := Lib.hid fun a r v e w hG hB hT => by
    exact edit_two (x := cLate c) (by omega) HTG.out.2 (cOp_ok c) rfl (by first | exact HN.out.1 | exact (by decide : (1 : Int) ≤ 2)) (two_x5 N c) w hG hB hT
  have X6 : Hid (∀ a r v e w, Glb B w → (∀ k, Its a r v e k → B ≤ k) → TapAt w a r v e (stB N c) → Calls Tryz.prog 31 #[.pointer (some ⟨a, 0, none⟩), .int .i64 3, .agg #[.int .i64 (cEd c).tag, .int .i64 (cEd c).op.kind, .int .i64 (cMoved c).op.pos, .int .u8 ((cEd c).op.ch.toNat : Int), .int .i64 (cEd c).op.client, .int .i64 (cEd c).op.seq]] w fun ev w' => Took w a r v e 280 (stB N c) ev w') := Lib.hid fun a r v e w hG hB hT => by
    exact edit_two (x := cMoved c) (by omega) HTG.out.1 (cMoved_ok c) rfl (by first | exact HN.out.1 | exact (by decide : (1 : Int) ≤ 2)) (two_x6 N c) w hG hB hT
  have X7 : Hid ((cRec c).kind ≠ 0 → ∀ a r v e w, Glb B w → (∀ k, Its a r v e k → B ≤ k) → TapAt w a r v e (stB N c) → Calls Tryz.prog 13 #[.pointer (some ⟨a, 0, none⟩), .int .i64 (cRev c), .agg #[.int .i64 (cRec c).kind, .int .i64 (cPlace c).pos, .int .u8 ((cRec c).ch.toNat : Int), .int .i64 (cRec c).client, .int .i64 (cRec c).seq]] w fun ev w' => Took w a r v e 280 (stB N c) ev w') := Lib.hid fun hk a r v e w hG hB hT => by
    rw [HCL.out.1, HCL.out.2]
    exact record_two (o := cPlace c) ⟨by have := HRV.out; omega, HRV.out.2⟩ (cPlace_ok c hk) HN.out.1 (two_x7 N c) w hG hB hT
  have Z1 : Hid (∀ a r v e w, Glb B w → (∀ k, Its a r v e k → B ≤ k) → TapAt w a r v e (T1 2) → Calls Tryz.prog 13 #[.pointer (some ⟨a, 0, none⟩), .int .i64 (cRev c), .agg #[.int .i64 (cBad c).kind, .int .i64 (cBad c).pos, .int .u8 ((cBad c).ch.toNat : Int), .int .i64 (cBad c).client, .int .i64 (cBad c).seq]] w fun ev w' => Took w a r v e 0 (stR 2 c (cBad c)) ev w') := Lib.hid fun a r v e w hG hB hT => by
    rw [← (two_r1 2 c (cBad c) (cName c).2.2).2]
    exact record_fits ⟨by have := HRV.out; omega, HRV.out.2⟩ (cBad_ok c) (by first | exact HN.out.1 | exact (by decide : (1 : Int) ≤ 2)) (two_r1 2 c (cBad c) (cName c).2.2).1 w hG hB hT
  have Z2 : Hid (∀ a r v e w, Glb B w → (∀ k, Its a r v e k → B ≤ k) → TapAt w a r v e (stR 2 c (cBad c)) → Calls Tryz.prog 31 #[.pointer (some ⟨a, 0, none⟩), .int .i64 3, .agg #[.int .i64 (cEd c).tag, .int .i64 (cEd c).op.kind, .int .i64 (cEd c).op.pos, .int .u8 ((cEd c).op.ch.toNat : Int), .int .i64 (cEd c).op.client, .int .i64 (cEd c).op.seq]] w fun ev w' => Took w a r v e 280 (stR 2 c (cBad c)) ev w') := Lib.hid fun a r v e w hG hB hT => by
    exact edit_two (x := cEd c) (by omega) HTG.out.1 (cOp_ok c) rfl (by first | exact HN.out.1 | exact (by decide : (1 : Int) ≤ 2)) (two_x8 2 c) w hG hB hT
  have W1 := Lib.hid fun a r v e w (hT : TapAt w a r v e (stE N c)) => wait_got (L := [cEd c]) a r v e (stE N c) 1 w hT (by simp [stE]) (ed_in1 N c) fun M hp _ => perm_one (by rw [two_wait1] at hp; exact hp)
  have W2 := Lib.hid fun a r v e w (hT : TapAt w a r v e (stB N c)) => wait_got (L := []) a r v e (stB N c) 1 w hT (by simp [stB]) (ed_in N c) fun M hp _ => perm_nil (by rw [two_wait] at hp; exact hp)
  have M1 := Lib.hid fun a r v e w (hT : TapAt w a r v e (stB N c)) => made_got (L := [cEd c]) a r v e (stB N c) 1 w hT (by simp [stB]) (ed_in N c) fun M hp _ => perm_one (by rw [two_made] at hp; exact hp)
  have M2 := Lib.hid fun a r v e w (hT : TapAt w a r v e (stR 2 c (cBad c))) => made_got (L := []) a r v e (stR 2 c (cBad c)) 1 w hT (by simp [stR]) (fun p hp => by simp [stR] at hp) fun M hp _ => perm_nil (by rw [two_none] at hp; exact hp)
  have KN := Lib.hid fun a r v e w (hT : TapAt w a r v e (stB N c)) => known_got (L := [1, cRev c]) a r v e (stB N c) w hT (by simp [stB]) (two_known N c)
  have Hi := Lib.hid into_gen
  have f9 := field9
  have HF9 := Lib.hid f9
  clear f9
  obtain ⟨Y, hY⟩ : ∃ Y : World, Y = ((((w2.alloc (.cells #[.int .i64 (cBad c).kind, .int .i64 (cBad c).pos, .int .u8 ((cBad c).ch.toNat : Int), .int .i64 (cBad c).client, .int .i64 (cBad c).seq] 26)).alloc (.cells #[.int .i64 (cLate c).tag, .int .i64 (cEd c).op.kind, .int .i64 (cEd c).op.pos, .int .u8 ((cEd c).op.ch.toNat : Int), .int .i64 (cEd c).op.client, .int .i64 (cEd c).op.seq] 67)).alloc (.cells #[.int .i64 (cEd c).tag, .int .i64 (cEd c).op.kind, .int .i64 (cMoved c).op.pos, .int .u8 ((cEd c).op.ch.toNat : Int), .int .i64 (cEd c).op.client, .int .i64 (cEd c).op.seq] 67)).alloc (.cells #[.int .i64 (cRec c).kind, .int .i64 (cPlace c).pos, .int .u8 ((cRec c).ch.toNat : Int), .int .i64 (cRec c).client, .int .i64 (cRec c).seq] 26)) := ⟨_, rfl⟩
  have HY := Lib.hid hY
  have hfY : Fr None' w2 Y := by rw [hY]; exact ((((Fr.refl _ _).alloc _).alloc _).alloc _).alloc _
  have yC := Lib.hid (HC2.out.fr hfY fun h => h)
  have yE := Lib.hid (HE2.out.fr hfY fun h => h)
  have yR := Lib.hid (HR2.out.fr hfY fun h => h)
  have yB : Hid (Blk Y w2.heap.size 26 #[.int .i64 (cBad c).kind, .int .i64 (cBad c).pos, .int .u8 ((cBad c).ch.toNat : Int), .int .i64 (cBad c).client, .int .i64 (cBad c).seq]) := Lib.hid (by rw [hY]; exact (((Blk.new _ _ _).alloc _).alloc _).alloc _)
  have yL : Hid (Blk Y (w2.heap.size + 1) 67 #[.int .i64 (cLate c).tag, .int .i64 (cEd c).op.kind, .int .i64 (cEd c).op.pos, .int .u8 ((cEd c).op.ch.toNat : Int), .int .i64 (cEd c).op.client, .int .i64 (cEd c).op.seq]) := Lib.hid (by
    rw [hY]
    have := Blk.new (w2.alloc (.cells #[.int .i64 (cBad c).kind, .int .i64 (cBad c).pos, .int .u8 ((cBad c).ch.toNat : Int), .int .i64 (cBad c).client, .int .i64 (cBad c).seq] 26)) 67 #[.int .i64 (cLate c).tag, .int .i64 (cEd c).op.kind, .int .i64 (cEd c).op.pos, .int .u8 ((cEd c).op.ch.toNat : Int), .int .i64 (cEd c).op.client, .int .i64 (cEd c).op.seq]
    rw [World.size_alloc] at this
    exact (this.alloc _).alloc _)
  have yM : Hid (Blk Y (w2.heap.size + 1 + 1) 67 #[.int .i64 (cEd c).tag, .int .i64 (cEd c).op.kind, .int .i64 (cMoved c).op.pos, .int .u8 ((cEd c).op.ch.toNat : Int), .int .i64 (cEd c).op.client, .int .i64 (cEd c).op.seq]) := Lib.hid (by
    rw [hY]
    have := Blk.new ((w2.alloc (.cells #[.int .i64 (cBad c).kind, .int .i64 (cBad c).pos, .int .u8 ((cBad c).ch.toNat : Int), .int .i64 (cBad c).client, .int .i64 (cBad c).seq] 26)).alloc (.cells #[.int .i64 (cLate c).tag, .int .i64 (cEd c).op.kind, .int .i64 (cEd c).op.pos, .int .u8 ((cEd c).op.ch.toNat : Int), .int .i64 (cEd c).op.client, .int .i64 (cEd c).op.seq] 67)) 67 #[.int .i64 (cEd c).tag, .int .i64 (cEd c).op.kind, .int .i64 (cMoved c).op.pos, .int .u8 ((cEd c).op.ch.toNat : Int), .int .i64 (cEd c).op.client, .int .i64 (cEd c).op.seq]
    rw [World.size_alloc, World.size_alloc] at this
    exact this.alloc _)
  have yP : Hid (Blk Y (w2.heap.size + 1 + 1 + 1) 26 #[.int .i64 (cRec c).kind, .int .i64 (cPlace c).pos, .int .u8 ((cRec c).ch.toNat : Int), .int .i64 (cRec c).client, .int .i64 (cRec c).seq]) := Lib.hid (by
    rw [hY]
    have := Blk.new (((w2.alloc (.cells #[.int .i64 (cBad c).kind, .int .i64 (cBad c).pos, .int .u8 ((cBad c).ch.toNat : Int), .int .i64 (cBad c).client, .int .i64 (cBad c).seq] 26)).alloc (.cells #[.int .i64 (cLate c).tag, .int .i64 (cEd c).op.kind, .int .i64 (cEd c).op.pos, .int .u8 ((cEd c).op.ch.toNat : Int), .int .i64 (cEd c).op.client, .int .i64 (cEd c).op.seq] 67)).alloc (.cells #[.int .i64 (cEd c).tag, .int .i64 (cEd c).op.kind, .int .i64 (cMoved c).op.pos, .int .u8 ((cEd c).op.ch.toNat : Int), .int .i64 (cEd c).op.client, .int .i64 (cEd c).op.seq] 67)) 26 #[.int .i64 (cRec c).kind, .int .i64 (cPlace c).pos, .int .u8 ((cRec c).ch.toNat : Int), .int .i64 (cRec c).client, .int .i64 (cRec c).seq]
    rw [World.size_alloc, World.size_alloc, World.size_alloc] at this
    exact this)
  have HFY := Lib.hid (HF2.out.trans' hfY)
  have HGY := Lib.hid (HG.out.fr HFY.out fun _ h => h.elim)
  have hBY : B ≤ Y.heap.size := Nat.le_trans HG.out.le HFY.out.size
  have HBY := Lib.hid hBY
  clear hY hfY hBY
  go_upto_if 26 with fail
  go_cut [7] from 14 to 44 (fun s7 wx => s7 = .int .i64 (cOther c) ∧ wx = w2.alloc (.cells #[.int .i64 (cBad c).kind, .int .i64 (cBad c).pos, .int .u8 ((cBad c).ch.toNat : Int), .int .i64 (cBad c).client, .int .i64 (cBad c).seq] 26))
  case first =>
    clear e2 e3 e4 e5 K1 K3 K4 K5 K6 K7 K8 X1 X2 X3 X4 X5 X6 X7 Z1 Z2 W1 W2 M1 M2 KN
    by_cases h4 : cRev c = 4096
    · have q4 : (cRev c == 4096) = true := by simpa using h4
      have ho : cOther c = 4095 := by unfold cOther; rw [if_pos h4]
      have HO := Lib.hid ho
      clear h4 ho
      go_wp2_with fail
      go_meet
      exact ⟨by rw [HO.out], rfl⟩
    · have q4 : (cRev c == 4096) = false := by simpa using h4
      have ho : cOther c = cRev c + 1 := by unfold cOther; rw [if_neg h4]
      have HO := Lib.hid ho
      clear h4 ho
      go_wp2_with fail
      go_meet
      exact ⟨by rw [HO.out], rfl⟩
  case rest =>
    obtain ⟨rfl, rfl⟩ := hcut
    clear e1
    go_wp2
    clear e2 e3 e4 e5
    rw [← HY.out]
    clear HY HC2 HE2 HR2 HF2 y2 y3 l2 l3 n1 n2 n3 n4 n5 n6
    generalize w2.heap.size = m at *
    go_loopw [11] (fun i wr => ∃ k : Int, (k = 0 ∨ k = 1 ∨ k = 2) ∧ i = .int .i64 k ∧ Fr None' Y wr) (fun i _ => (2 - intOf i).toNat)
    case atStart => exact ⟨0, .inl rfl, rfl, Fr.refl _ _⟩
    case round =>
      obtain ⟨k, hk, rfl, hf⟩ := hrel
      have HFr := Lib.hid hf
      clear hf
      have zC := fun i => Blk.cell (Blk.fr yC.out HFr.out fun h => h) i
      have zE := fun i => Blk.cell (Blk.fr yE.out HFr.out fun h => h) i
      have zR := fun i => Blk.cell (Blk.fr yR.out HFr.out fun h => h) i
      have zB := fun i => Blk.cell (Blk.fr yB.out HFr.out fun h => h) i
      have zL := fun i => Blk.cell (Blk.fr yL.out HFr.out fun h => h) i
      have zM := fun i => Blk.cell (Blk.fr yM.out HFr.out fun h => h) i
      have zP := fun i => Blk.cell (Blk.fr yP.out HFr.out fun h => h) i
      by_cases hk2 : k = 2
      · subst hk2
        clear hk
        go_wp2_with fail
        refine (begun_any B 2 _ (HGY.out.fr HFr.out fun _ h => h.elim) (by omega) (by omega)).mono ?_
        rintro ev wk ⟨a, r, v, e, rfl, hT, hlo, hf⟩
        dsimp only
        have HT := Lib.hid hT
        have HLo := Lib.hid fun k hk => Nat.le_trans HFr.out.size (hlo k hk)
        have HF := Lib.hid (HFr.out.trans' hf)
        clear hT hlo hf HFr zC zE zR zB zL zM zP
        have zC := fun i => Blk.cell (Blk.fr yC.out HF.out fun h => h) i
        have zE := fun i => Blk.cell (Blk.fr yE.out HF.out fun h => h) i
        have zR := fun i => Blk.cell (Blk.fr yR.out HF.out fun h => h) i
        have zB := fun i => Blk.cell (Blk.fr yB.out HF.out fun h => h) i
        have zL := fun i => Blk.cell (Blk.fr yL.out HF.out fun h => h) i
        have zM := fun i => Blk.cell (Blk.fr yM.out HF.out fun h => h) i
        have zP := fun i => Blk.cell (Blk.fr yP.out HF.out fun h => h) i
        go_wp2_with fail
        refine (Z1.out a r v e _ (HGY.out.fr HF.out fun _ h => h.elim) (fun k hk => Nat.le_trans HBY.out (HLo.out k hk)) HT.out).mono ?_
        rintro ev wk ⟨rfl, hT, hf⟩
        dsimp only
        have HTn := Lib.hid hT
        have HFn := Lib.hid (HF.out.trans hf fun i hi hs => by have := HLo.out i hs; omega)
        clear hT hf HT HF zC zE zR zB zL zM zP
        have HT := HTn
        have HF := HFn
        clear HTn HFn
        have zC := fun i => Blk.cell (Blk.fr yC.out HF.out fun h => h) i
        have zE := fun i => Blk.cell (Blk.fr yE.out HF.out fun h => h) i
        have zR := fun i => Blk.cell (Blk.fr yR.out HF.out fun h => h) i
        have zB := fun i => Blk.cell (Blk.fr yB.out HF.out fun h => h) i
        have zL := fun i => Blk.cell (Blk.fr yL.out HF.out fun h => h) i
        have zM := fun i => Blk.cell (Blk.fr yM.out HF.out fun h => h) i
        have zP := fun i => Blk.cell (Blk.fr yP.out HF.out fun h => h) i
        go_wp2_with fail
        refine (Z2.out a r v e _ (HGY.out.fr HF.out fun _ h => h.elim) (fun k hk => Nat.le_trans HBY.out (HLo.out k hk)) HT.out).mono ?_
        rintro ev wk ⟨rfl, hT, hf⟩
        dsimp only
        have HTn := Lib.hid hT
        have HFn := Lib.hid (HF.out.trans hf fun i hi hs => by have := HLo.out i hs; omega)
        clear hT hf HT HF zC zE zR zB zL zM zP
        have HT := HTn
        have HF := HFn
        clear HTn HFn
        have zC := fun i => Blk.cell (Blk.fr yC.out HF.out fun h => h) i
        have zE := fun i => Blk.cell (Blk.fr yE.out HF.out fun h => h) i
        have zR := fun i => Blk.cell (Blk.fr yR.out HF.out fun h => h) i
        have zB := fun i => Blk.cell (Blk.fr yB.out HF.out fun h => h) i
        have zL := fun i => Blk.cell (Blk.fr yL.out HF.out fun h => h) i
        have zM := fun i => Blk.cell (Blk.fr yM.out HF.out fun h => h) i
        have zP := fun i => Blk.cell (Blk.fr yP.out HF.out fun h => h) i
        go_wp2_with fail
        refine (M2.out a r v e _ HT.out).mono ?_
        rintro ev wk ⟨A1, c1, rfl, hc1, hr1, hf⟩
        dsimp only [List.length_cons, List.length_nil]
        have HTn := Lib.hid (HT.out.frn hf)
        have HFn := Lib.hid (HF.out.trans' hf)
        clear hf HT HF zC zE zR zB zL zM zP
        have HT := HTn
        have HF := HFn
        clear HTn HFn
        have zC := fun i => Blk.cell (Blk.fr yC.out HF.out fun h => h) i
        have zE := fun i => Blk.cell (Blk.fr yE.out HF.out fun h => h) i
        have zR := fun i => Blk.cell (Blk.fr yR.out HF.out fun h => h) i
        have zB := fun i => Blk.cell (Blk.fr yB.out HF.out fun h => h) i
        have zL := fun i => Blk.cell (Blk.fr yL.out HF.out fun h => h) i
        have zM := fun i => Blk.cell (Blk.fr yM.out HF.out fun h => h) i
        have zP := fun i => Blk.cell (Blk.fr yP.out HF.out fun h => h) i
        go_wp2
        go_ret
        exact ⟨rfl, HFY.out.trans' HF.out⟩
      · have d1 : decide (k < 2) = true := by simp; omega
        have e1 : IntKind.i64.wrap (k + 1) = k + 1 := IntWalk.i64_in _ (by omega)
        have hk' : k = 0 ∨ k = 1 := by omega
        have HK := Lib.hid hk'
        clear hk hk2 hk'
        go_wp2_with (go_at_call 12; refine (Hi.out _ _ (by omega) (by omega) _).mono ?_; rintro e0 w0 ⟨rfl, rfl⟩)
        refine (begun_any B N _ (HGY.out.fr HFr.out fun _ h => h.elim) HN.out.1 HN.out.2).mono ?_
        rintro ev wk ⟨a, r, v, e, rfl, hT, hlo, hf⟩
        dsimp only
        have HT := Lib.hid hT
        have HLo := Lib.hid fun k hk => Nat.le_trans HFr.out.size (hlo k hk)
        have HF := Lib.hid (HFr.out.trans' hf)
        clear hT hlo hf HFr zC zE zR zB zL zM zP
        have zC := fun i => Blk.cell (Blk.fr yC.out HF.out fun h => h) i
        have zE := fun i => Blk.cell (Blk.fr yE.out HF.out fun h => h) i
        have zR := fun i => Blk.cell (Blk.fr yR.out HF.out fun h => h) i
        have zB := fun i => Blk.cell (Blk.fr yB.out HF.out fun h => h) i
        have zL := fun i => Blk.cell (Blk.fr yL.out HF.out fun h => h) i
        have zM := fun i => Blk.cell (Blk.fr yM.out HF.out fun h => h) i
        have zP := fun i => Blk.cell (Blk.fr yP.out HF.out fun h => h) i
        go_upto_region 18 with fail
        clear zC zE zR zB zL zM zP
        go_cut [89] (fun s wx => s = .bool false ∧ Hid ((k = 0 ∧ TapAt wx a r v e (stB N c)) ∨ (k = 1 ∧ TapAt wx a r v e (T1 N))) ∧ Hid (Fr None' Y wx))
        case first =>
          have zC := fun i => Blk.cell (Blk.fr yC.out HF.out fun h => h) i
          have zE := fun i => Blk.cell (Blk.fr yE.out HF.out fun h => h) i
          have zR := fun i => Blk.cell (Blk.fr yR.out HF.out fun h => h) i
          have zB := fun i => Blk.cell (Blk.fr yB.out HF.out fun h => h) i
          have zL := fun i => Blk.cell (Blk.fr yL.out HF.out fun h => h) i
          have zM := fun i => Blk.cell (Blk.fr yM.out HF.out fun h => h) i
          have zP := fun i => Blk.cell (Blk.fr yP.out HF.out fun h => h) i
          rcases HK.out with rfl | rfl
          · skip
            go_wp2_with fail
            refine (K1.out a r v e _ (HGY.out.fr HF.out fun _ h => h.elim) (fun k hk => Nat.le_trans HBY.out (HLo.out k hk)) HT.out).mono ?_
            rintro ev wk ⟨rfl, hT, hf⟩
            dsimp only
            have HTn := Lib.hid hT
            have HFn := Lib.hid (HF.out.trans hf fun i hi hs => by have := HLo.out i hs; omega)
            clear hT hf HT HF zC zE zR zB zL zM zP
            have HT := HTn
            have HF := HFn
            clear HTn HFn
            have zC := fun i => Blk.cell (Blk.fr yC.out HF.out fun h => h) i
            have zE := fun i => Blk.cell (Blk.fr yE.out HF.out fun h => h) i
            have zR := fun i => Blk.cell (Blk.fr yR.out HF.out fun h => h) i
            have zB := fun i => Blk.cell (Blk.fr yB.out HF.out fun h => h) i
            have zL := fun i => Blk.cell (Blk.fr yL.out HF.out fun h => h) i
            have zM := fun i => Blk.cell (Blk.fr yM.out HF.out fun h => h) i
            have zP := fun i => Blk.cell (Blk.fr yP.out HF.out fun h => h) i
            go_wp2_with fail
            refine (W1.out a r v e _ HT.out).mono ?_
            rintro ev wk ⟨A1, c1, rfl, hc1, hr1, hf⟩
            dsimp only [List.length_cons, List.length_nil]
            have HTn := Lib.hid (HT.out.frn hf)
            have HFn := Lib.hid (HF.out.trans' hf)
            clear hf HT HF zC zE zR zB zL zM zP
            have HT := HTn
            have HF := HFn
            clear HTn HFn
            have zC := fun i => Blk.cell (Blk.fr yC.out HF.out fun h => h) i
            have zE := fun i => Blk.cell (Blk.fr yE.out HF.out fun h => h) i
            have zR := fun i => Blk.cell (Blk.fr yR.out HF.out fun h => h) i
            have zB := fun i => Blk.cell (Blk.fr yB.out HF.out fun h => h) i
            have zL := fun i => Blk.cell (Blk.fr yL.out HF.out fun h => h) i
            have zM := fun i => Blk.cell (Blk.fr yM.out HF.out fun h => h) i
            have zP := fun i => Blk.cell (Blk.fr yP.out HF.out fun h => h) i
            go_wp2_with fail
            refine (K3.out a r v e _ (HGY.out.fr HF.out fun _ h => h.elim) (fun k hk => Nat.le_trans HBY.out (HLo.out k hk)) HT.out).mono ?_
            rintro ev wk ⟨rfl, hT, hf⟩
            dsimp only
            have HTn := Lib.hid hT
            have HFn := Lib.hid (HF.out.trans hf fun i hi hs => by have := HLo.out i hs; omega)
            clear hT hf HT HF zC zE zR zB zL zM zP
            have HT := HTn
            have HF := HFn
            clear HTn HFn
            have zC := fun i => Blk.cell (Blk.fr yC.out HF.out fun h => h) i
            have zE := fun i => Blk.cell (Blk.fr yE.out HF.out fun h => h) i
            have zR := fun i => Blk.cell (Blk.fr yR.out HF.out fun h => h) i
            have zB := fun i => Blk.cell (Blk.fr yB.out HF.out fun h => h) i
            have zL := fun i => Blk.cell (Blk.fr yL.out HF.out fun h => h) i
            have zM := fun i => Blk.cell (Blk.fr yM.out HF.out fun h => h) i
            have zP := fun i => Blk.cell (Blk.fr yP.out HF.out fun h => h) i
            go_wp2_with fail
            refine (K4.out a r v e _ (HGY.out.fr HF.out fun _ h => h.elim) (fun k hk => Nat.le_trans HBY.out (HLo.out k hk)) HT.out).mono ?_
            rintro ev wk ⟨rfl, hT, hf⟩
            dsimp only
            have HTn := Lib.hid hT
            have HFn := Lib.hid (HF.out.trans hf fun i hi hs => by have := HLo.out i hs; omega)
            clear hT hf HT HF zC zE zR zB zL zM zP
            have HT := HTn
            have HF := HFn
            clear HTn HFn
            have zC := fun i => Blk.cell (Blk.fr yC.out HF.out fun h => h) i
            have zE := fun i => Blk.cell (Blk.fr yE.out HF.out fun h => h) i
            have zR := fun i => Blk.cell (Blk.fr yR.out HF.out fun h => h) i
            have zB := fun i => Blk.cell (Blk.fr yB.out HF.out fun h => h) i
            have zL := fun i => Blk.cell (Blk.fr yL.out HF.out fun h => h) i
            have zM := fun i => Blk.cell (Blk.fr yM.out HF.out fun h => h) i
            have zP := fun i => Blk.cell (Blk.fr yP.out HF.out fun h => h) i
            go_wp2_with fail
            refine (K5.out a r v e _ (HGY.out.fr HF.out fun _ h => h.elim) (fun k hk => Nat.le_trans HBY.out (HLo.out k hk)) HT.out).mono ?_
            rintro ev wk ⟨rfl, hT, hf⟩
            dsimp only
            have HTn := Lib.hid hT
            have HFn := Lib.hid (HF.out.trans hf fun i hi hs => by have := HLo.out i hs; omega)
            clear hT hf HT HF zC zE zR zB zL zM zP
            have HT := HTn
            have HF := HFn
            clear HTn HFn
            have zC := fun i => Blk.cell (Blk.fr yC.out HF.out fun h => h) i
            have zE := fun i => Blk.cell (Blk.fr yE.out HF.out fun h => h) i
            have zR := fun i => Blk.cell (Blk.fr yR.out HF.out fun h => h) i
            have zB := fun i => Blk.cell (Blk.fr yB.out HF.out fun h => h) i
            have zL := fun i => Blk.cell (Blk.fr yL.out HF.out fun h => h) i
            have zM := fun i => Blk.cell (Blk.fr yM.out HF.out fun h => h) i
            have zP := fun i => Blk.cell (Blk.fr yP.out HF.out fun h => h) i
            go_wp2_with fail
            go_meet
            exact ⟨by first | rfl | trivial, Lib.hid (.inl ⟨by first | rfl | trivial, HT.out⟩), HF⟩
          · skip
            go_wp2_with fail
            go_meet
            exact ⟨by first | rfl | trivial, Lib.hid (.inr ⟨by first | rfl | trivial, HT.out⟩), HF⟩
        case rest =>
          clear HT HF
          obtain ⟨rfl, HTs, HF⟩ := hcut
          go_upto_region 20 with fail
          go_cut [111] (fun s wx => s = .bool false ∧ Hid (TapAt wx a r v e (stB N c)) ∧ Hid (Fr None' Y wx))
          case first =>
            have zC := fun i => Blk.cell (Blk.fr yC.out HF.out fun h => h) i
            have zE := fun i => Blk.cell (Blk.fr yE.out HF.out fun h => h) i
            have zR := fun i => Blk.cell (Blk.fr yR.out HF.out fun h => h) i
            have zB := fun i => Blk.cell (Blk.fr yB.out HF.out fun h => h) i
            have zL := fun i => Blk.cell (Blk.fr yL.out HF.out fun h => h) i
            have zM := fun i => Blk.cell (Blk.fr yM.out HF.out fun h => h) i
            have zP := fun i => Blk.cell (Blk.fr yP.out HF.out fun h => h) i
            rcases HTs.out with ⟨rfl, hT⟩ | ⟨rfl, hT⟩
            · have HT := Lib.hid hT
              clear hT
              go_wp2_with fail
              go_meet
              exact ⟨by first | rfl | trivial, HT, HF⟩
            · have HT := Lib.hid hT
              clear hT
              go_wp2_with fail
              refine (K6.out a r v e _ (HGY.out.fr HF.out fun _ h => h.elim) (fun k hk => Nat.le_trans HBY.out (HLo.out k hk)) HT.out).mono ?_
              rintro ev wk ⟨rfl, hT, hf⟩
              dsimp only
              have HTn := Lib.hid hT
              have HFn := Lib.hid (HF.out.trans hf fun i hi hs => by have := HLo.out i hs; omega)
              clear hT hf HT HF zC zE zR zB zL zM zP
              have HT := HTn
              have HF := HFn
              clear HTn HFn
              have zC := fun i => Blk.cell (Blk.fr yC.out HF.out fun h => h) i
              have zE := fun i => Blk.cell (Blk.fr yE.out HF.out fun h => h) i
              have zR := fun i => Blk.cell (Blk.fr yR.out HF.out fun h => h) i
              have zB := fun i => Blk.cell (Blk.fr yB.out HF.out fun h => h) i
              have zL := fun i => Blk.cell (Blk.fr yL.out HF.out fun h => h) i
              have zM := fun i => Blk.cell (Blk.fr yM.out HF.out fun h => h) i
              have zP := fun i => Blk.cell (Blk.fr yP.out HF.out fun h => h) i
              go_wp2_with fail
              refine (K7.out a r v e _ (HGY.out.fr HF.out fun _ h => h.elim) (fun k hk => Nat.le_trans HBY.out (HLo.out k hk)) HT.out).mono ?_
              rintro ev wk ⟨rfl, hT, hf⟩
              dsimp only
              have HTn := Lib.hid hT
              have HFn := Lib.hid (HF.out.trans hf fun i hi hs => by have := HLo.out i hs; omega)
              clear hT hf HT HF zC zE zR zB zL zM zP
              have HT := HTn
              have HF := HFn
              clear HTn HFn
              have zC := fun i => Blk.cell (Blk.fr yC.out HF.out fun h => h) i
              have zE := fun i => Blk.cell (Blk.fr yE.out HF.out fun h => h) i
              have zR := fun i => Blk.cell (Blk.fr yR.out HF.out fun h => h) i
              have zB := fun i => Blk.cell (Blk.fr yB.out HF.out fun h => h) i
              have zL := fun i => Blk.cell (Blk.fr yL.out HF.out fun h => h) i
              have zM := fun i => Blk.cell (Blk.fr yM.out HF.out fun h => h) i
              have zP := fun i => Blk.cell (Blk.fr yP.out HF.out fun h => h) i
              go_wp2_with fail
              refine (K8.out a r v e _ (HGY.out.fr HF.out fun _ h => h.elim) (fun k hk => Nat.le_trans HBY.out (HLo.out k hk)) HT.out).mono ?_
              rintro ev wk ⟨rfl, hT, hf⟩
              dsimp only
              have HTn := Lib.hid hT
              have HFn := Lib.hid (HF.out.trans hf fun i hi hs => by have := HLo.out i hs; omega)
              clear hT hf HT HF zC zE zR zB zL zM zP
              have HT := HTn
              have HF := HFn
              clear HTn HFn
              have zC := fun i => Blk.cell (Blk.fr yC.out HF.out fun h => h) i
              have zE := fun i => Blk.cell (Blk.fr yE.out HF.out fun h => h) i
              have zR := fun i => Blk.cell (Blk.fr yR.out HF.out fun h => h) i
              have zB := fun i => Blk.cell (Blk.fr yB.out HF.out fun h => h) i
              have zL := fun i => Blk.cell (Blk.fr yL.out HF.out fun h => h) i
              have zM := fun i => Blk.cell (Blk.fr yM.out HF.out fun h => h) i
              have zP := fun i => Blk.cell (Blk.fr yP.out HF.out fun h => h) i
              go_wp2_with fail
              go_meet
              exact ⟨by first | rfl | trivial, HT, HF⟩
          case rest =>
            clear HTs HF
            obtain ⟨rfl, HT, HF⟩ := hcut
            go_upto_region 22 with fail
            go_cut [137] (fun s wx => s = .bool false ∧ Hid (TapAt wx a r v e (stB N c)) ∧ Hid (Fr None' Y wx))
            case first =>
              have zC := fun i => Blk.cell (Blk.fr yC.out HF.out fun h => h) i
              have zE := fun i => Blk.cell (Blk.fr yE.out HF.out fun h => h) i
              have zR := fun i => Blk.cell (Blk.fr yR.out HF.out fun h => h) i
              have zB := fun i => Blk.cell (Blk.fr yB.out HF.out fun h => h) i
              have zL := fun i => Blk.cell (Blk.fr yL.out HF.out fun h => h) i
              have zM := fun i => Blk.cell (Blk.fr yM.out HF.out fun h => h) i
              have zP := fun i => Blk.cell (Blk.fr yP.out HF.out fun h => h) i
              go_wp2_with fail
              refine (X1.out a r v e _ (HGY.out.fr HF.out fun _ h => h.elim) (fun k hk => Nat.le_trans HBY.out (HLo.out k hk)) HT.out).mono ?_
              rintro ev wk ⟨rfl, hT, hf⟩
              dsimp only
              have HTn := Lib.hid hT
              have HFn := Lib.hid (HF.out.trans hf fun i hi hs => by have := HLo.out i hs; omega)
              clear hT hf HT HF zC zE zR zB zL zM zP
              have HT := HTn
              have HF := HFn
              clear HTn HFn
              have zC := fun i => Blk.cell (Blk.fr yC.out HF.out fun h => h) i
              have zE := fun i => Blk.cell (Blk.fr yE.out HF.out fun h => h) i
              have zR := fun i => Blk.cell (Blk.fr yR.out HF.out fun h => h) i
              have zB := fun i => Blk.cell (Blk.fr yB.out HF.out fun h => h) i
              have zL := fun i => Blk.cell (Blk.fr yL.out HF.out fun h => h) i
              have zM := fun i => Blk.cell (Blk.fr yM.out HF.out fun h => h) i
              have zP := fun i => Blk.cell (Blk.fr yP.out HF.out fun h => h) i
              go_wp2_with fail
              refine (X2.out a r v e _ (HGY.out.fr HF.out fun _ h => h.elim) (fun k hk => Nat.le_trans HBY.out (HLo.out k hk)) HT.out).mono ?_
              rintro ev wk ⟨rfl, hT, hf⟩
              dsimp only
              have HTn := Lib.hid hT
              have HFn := Lib.hid (HF.out.trans hf fun i hi hs => by have := HLo.out i hs; omega)
              clear hT hf HT HF zC zE zR zB zL zM zP
              have HT := HTn
              have HF := HFn
              clear HTn HFn
              have zC := fun i => Blk.cell (Blk.fr yC.out HF.out fun h => h) i
              have zE := fun i => Blk.cell (Blk.fr yE.out HF.out fun h => h) i
              have zR := fun i => Blk.cell (Blk.fr yR.out HF.out fun h => h) i
              have zB := fun i => Blk.cell (Blk.fr yB.out HF.out fun h => h) i
              have zL := fun i => Blk.cell (Blk.fr yL.out HF.out fun h => h) i
              have zM := fun i => Blk.cell (Blk.fr yM.out HF.out fun h => h) i
              have zP := fun i => Blk.cell (Blk.fr yP.out HF.out fun h => h) i
              go_wp2_with fail
              refine (first_lit _).mono ?_
              rintro ev wk ⟨rfl, hf⟩
              unfold FM
              dsimp only
              have HTn := Lib.hid (HT.out.frn hf)
              have HFn := Lib.hid (HF.out.trans' hf)
              clear hf HT HF zC zE zR zB zL zM zP
              have HT := HTn
              have HF := HFn
              clear HTn HFn
              have zC := fun i => Blk.cell (Blk.fr yC.out HF.out fun h => h) i
              have zE := fun i => Blk.cell (Blk.fr yE.out HF.out fun h => h) i
              have zR := fun i => Blk.cell (Blk.fr yR.out HF.out fun h => h) i
              have zB := fun i => Blk.cell (Blk.fr yB.out HF.out fun h => h) i
              have zL := fun i => Blk.cell (Blk.fr yL.out HF.out fun h => h) i
              have zM := fun i => Blk.cell (Blk.fr yM.out HF.out fun h => h) i
              have zP := fun i => Blk.cell (Blk.fr yP.out HF.out fun h => h) i
              have f9 := HF9.out
              go_wp2_with fail
              refine (X3.out a r v e _ (HGY.out.fr HF.out fun _ h => h.elim) (fun k hk => Nat.le_trans HBY.out (HLo.out k hk)) HT.out).mono ?_
              rintro ev wk ⟨rfl, hT, hf⟩
              dsimp only
              have HTn := Lib.hid hT
              have HFn := Lib.hid (HF.out.trans hf fun i hi hs => by have := HLo.out i hs; omega)
              clear hT hf HT HF zC zE zR zB zL zM zP
              have HT := HTn
              have HF := HFn
              clear HTn HFn
              have zC := fun i => Blk.cell (Blk.fr yC.out HF.out fun h => h) i
              have zE := fun i => Blk.cell (Blk.fr yE.out HF.out fun h => h) i
              have zR := fun i => Blk.cell (Blk.fr yR.out HF.out fun h => h) i
              have zB := fun i => Blk.cell (Blk.fr yB.out HF.out fun h => h) i
              have zL := fun i => Blk.cell (Blk.fr yL.out HF.out fun h => h) i
              have zM := fun i => Blk.cell (Blk.fr yM.out HF.out fun h => h) i
              have zP := fun i => Blk.cell (Blk.fr yP.out HF.out fun h => h) i
              clear f9
              go_wp2_with fail
              refine (X4.out a r v e _ (HGY.out.fr HF.out fun _ h => h.elim) (fun k hk => Nat.le_trans HBY.out (HLo.out k hk)) HT.out).mono ?_
              rintro ev wk ⟨rfl, hT, hf⟩
              dsimp only
              have HTn := Lib.hid hT
              have HFn := Lib.hid (HF.out.trans hf fun i hi hs => by have := HLo.out i hs; omega)
              clear hT hf HT HF zC zE zR zB zL zM zP
              have HT := HTn
              have HF := HFn
              clear HTn HFn
              have zC := fun i => Blk.cell (Blk.fr yC.out HF.out fun h => h) i
              have zE := fun i => Blk.cell (Blk.fr yE.out HF.out fun h => h) i
              have zR := fun i => Blk.cell (Blk.fr yR.out HF.out fun h => h) i
              have zB := fun i => Blk.cell (Blk.fr yB.out HF.out fun h => h) i
              have zL := fun i => Blk.cell (Blk.fr yL.out HF.out fun h => h) i
              have zM := fun i => Blk.cell (Blk.fr yM.out HF.out fun h => h) i
              have zP := fun i => Blk.cell (Blk.fr yP.out HF.out fun h => h) i
              go_wp2_with fail
              go_meet
              exact ⟨by first | rfl | trivial, HT, HF⟩
            case rest =>
              clear HT HF
              obtain ⟨rfl, HT, HF⟩ := hcut
              go_upto_region 24 with fail
              go_cut [159] (fun s wx => s = .bool false ∧ Hid (TapAt wx a r v e (stB N c)) ∧ Hid (Fr None' Y wx))
              case first =>
                have zC := fun i => Blk.cell (Blk.fr yC.out HF.out fun h => h) i
                have zE := fun i => Blk.cell (Blk.fr yE.out HF.out fun h => h) i
                have zR := fun i => Blk.cell (Blk.fr yR.out HF.out fun h => h) i
                have zB := fun i => Blk.cell (Blk.fr yB.out HF.out fun h => h) i
                have zL := fun i => Blk.cell (Blk.fr yL.out HF.out fun h => h) i
                have zM := fun i => Blk.cell (Blk.fr yM.out HF.out fun h => h) i
                have zP := fun i => Blk.cell (Blk.fr yP.out HF.out fun h => h) i
                go_wp2_with fail
                refine (X5.out a r v e _ (HGY.out.fr HF.out fun _ h => h.elim) (fun k hk => Nat.le_trans HBY.out (HLo.out k hk)) HT.out).mono ?_
                rintro ev wk ⟨rfl, hT, hf⟩
                dsimp only
                have HTn := Lib.hid hT
                have HFn := Lib.hid (HF.out.trans hf fun i hi hs => by have := HLo.out i hs; omega)
                clear hT hf HT HF zC zE zR zB zL zM zP
                have HT := HTn
                have HF := HFn
                clear HTn HFn
                have zC := fun i => Blk.cell (Blk.fr yC.out HF.out fun h => h) i
                have zE := fun i => Blk.cell (Blk.fr yE.out HF.out fun h => h) i
                have zR := fun i => Blk.cell (Blk.fr yR.out HF.out fun h => h) i
                have zB := fun i => Blk.cell (Blk.fr yB.out HF.out fun h => h) i
                have zL := fun i => Blk.cell (Blk.fr yL.out HF.out fun h => h) i
                have zM := fun i => Blk.cell (Blk.fr yM.out HF.out fun h => h) i
                have zP := fun i => Blk.cell (Blk.fr yP.out HF.out fun h => h) i
                go_wp2_with fail
                refine (X6.out a r v e _ (HGY.out.fr HF.out fun _ h => h.elim) (fun k hk => Nat.le_trans HBY.out (HLo.out k hk)) HT.out).mono ?_
                rintro ev wk ⟨rfl, hT, hf⟩
                dsimp only
                have HTn := Lib.hid hT
                have HFn := Lib.hid (HF.out.trans hf fun i hi hs => by have := HLo.out i hs; omega)
                clear hT hf HT HF zC zE zR zB zL zM zP
                have HT := HTn
                have HF := HFn
                clear HTn HFn
                have zC := fun i => Blk.cell (Blk.fr yC.out HF.out fun h => h) i
                have zE := fun i => Blk.cell (Blk.fr yE.out HF.out fun h => h) i
                have zR := fun i => Blk.cell (Blk.fr yR.out HF.out fun h => h) i
                have zB := fun i => Blk.cell (Blk.fr yB.out HF.out fun h => h) i
                have zL := fun i => Blk.cell (Blk.fr yL.out HF.out fun h => h) i
                have zM := fun i => Blk.cell (Blk.fr yM.out HF.out fun h => h) i
                have zP := fun i => Blk.cell (Blk.fr yP.out HF.out fun h => h) i
                by_cases hz : (cRec c).kind = 0
                · have qk : ((cRec c).kind != 0) = false := by simpa using hz
                  clear hz
                  go_wp2_with fail
                  go_meet
                  exact ⟨by first | rfl | trivial, HT, HF⟩
                · have qk : ((cRec c).kind != 0) = true := by simpa using hz
                  have X8 := Lib.hid (X7.out hz)
                  clear hz
                  go_wp2_with fail
                  refine (X8.out a r v e _ (HGY.out.fr HF.out fun _ h => h.elim) (fun k hk => Nat.le_trans HBY.out (HLo.out k hk)) HT.out).mono ?_
                  rintro ev wk ⟨rfl, hT, hf⟩
                  dsimp only
                  have HTn := Lib.hid hT
                  have HFn := Lib.hid (HF.out.trans hf fun i hi hs => by have := HLo.out i hs; omega)
                  clear hT hf HT HF zC zE zR zB zL zM zP
                  have HT := HTn
                  have HF := HFn
                  clear HTn HFn
                  have zC := fun i => Blk.cell (Blk.fr yC.out HF.out fun h => h) i
                  have zE := fun i => Blk.cell (Blk.fr yE.out HF.out fun h => h) i
                  have zR := fun i => Blk.cell (Blk.fr yR.out HF.out fun h => h) i
                  have zB := fun i => Blk.cell (Blk.fr yB.out HF.out fun h => h) i
                  have zL := fun i => Blk.cell (Blk.fr yL.out HF.out fun h => h) i
                  have zM := fun i => Blk.cell (Blk.fr yM.out HF.out fun h => h) i
                  have zP := fun i => Blk.cell (Blk.fr yP.out HF.out fun h => h) i
                  go_wp2_with fail
                  go_meet
                  exact ⟨by first | rfl | trivial, HT, HF⟩
              case rest =>
                clear HT HF
                obtain ⟨rfl, HT, HF⟩ := hcut
                go_upto_region 26 with fail
                go_cut [179] (fun s wx => s = .bool false ∧ Hid (TapAt wx a r v e (stB N c)) ∧ Hid (Fr None' Y wx))
                case first =>
                  have zC := fun i => Blk.cell (Blk.fr yC.out HF.out fun h => h) i
                  have zE := fun i => Blk.cell (Blk.fr yE.out HF.out fun h => h) i
                  have zR := fun i => Blk.cell (Blk.fr yR.out HF.out fun h => h) i
                  have zB := fun i => Blk.cell (Blk.fr yB.out HF.out fun h => h) i
                  have zL := fun i => Blk.cell (Blk.fr yL.out HF.out fun h => h) i
                  have zM := fun i => Blk.cell (Blk.fr yM.out HF.out fun h => h) i
                  have zP := fun i => Blk.cell (Blk.fr yP.out HF.out fun h => h) i
                  have zq : ∀ (x : Later wc) i, x.w.cell? ⟨b, i, none⟩ = (#[.int .i64 (cEd c).tag, .int .i64 (cEd c).op.kind, .int .i64 (cEd c).op.pos, .int .u8 ((cEd c).op.ch.toNat : Int), .int .i64 (cEd c).op.client, .int .i64 (cEd c).op.seq] : Array Value)[i]? := fun x => ((yE.out.fr HF.out fun h => h).fr x.fr fun h => h).cell
                  have ZQ := Lib.hid zq
                  clear zq zC zE zR zB zL zM zP
                  refine wp_region_L (by kernel_rfl) ?_
                  refine wpL_heads 1 0 19 (by kernel_rfl) (by kernel_rfl) ?_ (by kernel_rfl)
                  simp only [List.take_succ_cons, List.take_zero, List.drop_zero]
                  repeat (go_big_quiet_step (fail))
                  refine wpQuiet_nil ?_
                  refine wpL_heads 1 2 18 (by kernel_rfl) (by kernel_rfl) ?_ (by kernel_rfl)
                  simp only [List.take_succ_cons, List.take_zero, List.drop_succ_cons, List.drop_zero]
                  repeat (go_big_quiet_step (fail))
                  refine wpQuiet_nil ?_
                  refine wpS_two 1 3 rfl rfl (by kernel_rfl) (by kernel_rfl) (by kernel_rfl) (fun w1 c1 s1 => ?_) (fun w1 c1 s1 => ?_)
                  · skip
                    have F1 := Lib.hid c1.fr
                    clear c1 s1
                    go_wp2_with fail
                    refine (KN.out a r v e _ (HT.out.frn F1.out)).mono ?_
                    rintro ev wn ⟨A1, q1, rfl, hq1, hr1, hf1⟩
                    dsimp only [List.length_cons, List.length_nil]
                    have F2 := Lib.hid (F1.out.trans' hf1)
                    have RA := Lib.hid hr1
                    clear hq1 hr1 hf1
                    go_wp2_with fail
                    refine ⟨LC.mk F2.out, fun w3 c3 s3 => ?_⟩
                    have F3 := Lib.hid c3.fr
                    have RA3 := Lib.hid (RA.out.frn s3)
                    clear c3 s3 RA F2
                    go_wp2_with fail
                    refine ⟨LC.mk (F3.out.alloc _), ?_⟩
                    refine wpL_step 4 rfl (by kernel_rfl) (fun w5 f5 s5 => ?_)
                    have RB5 : Hid (RI w5 (some ⟨w3.heap.size, 0, none⟩) 2 [1, cRev c]) := Lib.hid (((Blk.new w3 3 #[.int .i64 1, .int .i64 (cRev c)]).fr s5 fun h => h).reads0 rfl)
                    have RA5 := Lib.hid ((RA3.out.frn ((Fr.refl _ _).alloc _)).frn s5)
                    have F5 := Lib.hid f5
                    clear f5 s5 RA3 F3 F1
                    go_wp2_with fail
                    refine (ints_same _ _ 2 2 _ _ [1, cRev c] _ RA5.out RB5.out (by omega) (by omega)).mono ?_
                    rintro ev w6 ⟨rfl, hf6⟩
                    dsimp only
                    have F6 := Lib.hid (F5.out.trans' hf6)
                    clear hf6 F5 RA5 RB5
                    go_wp2_with fail
                    refine ⟨LC.mk F6.out, ?_⟩
                    refine wpL_heads 3 5 12 (by kernel_rfl) (by kernel_rfl) ?_ (by kernel_rfl)
                    simp only [List.take_succ_cons, List.take_zero, List.drop_succ_cons, List.drop_zero]
                    repeat (go_big_quiet_step (fail))
                    refine wpQuiet_nil ?_
                    have zq := ZQ.out
                    refine wpL_heads 1 9 11 (by kernel_rfl) (by kernel_rfl) ?_ (by kernel_rfl)
                    simp only [List.take_succ_cons, List.take_zero, List.drop_succ_cons, List.drop_zero]
                    repeat (go_big_quiet_step (fail))
                    refine wpQuiet_nil ?_
                    clear zq
                    refine wpS_two 8 10 rfl rfl (by kernel_rfl) (by kernel_rfl) (by kernel_rfl) (fun w7 c7 s7 => ?_) (fun w7 c7 s7 => ?_)
                    · skip
                      have F7 := Lib.hid c7.fr
                      clear c7 s7 F6
                      go_wp2_with fail
                      refine (M1.out a r v e _ (HT.out.frn F7.out)).mono ?_
                      rintro ev wn ⟨A2, q2, rfl, hq2, hr2, hf2⟩
                      dsimp only [List.length_cons, List.length_nil]
                      have F8 := Lib.hid (F7.out.trans' hf2)
                      have RC := Lib.hid hr2
                      clear hq2 hr2 hf2
                      go_wp2_with fail
                      refine ⟨LC.mk F8.out, fun w9 c9 s9 => ?_⟩
                      have F9 := Lib.hid c9.fr
                      have RC9 := Lib.hid (RC.out.frn s9)
                      clear c9 s9 RC F8
                      go_wp2_with fail
                      refine ⟨LC.mk (F9.out.alloc _), ?_⟩
                      refine wpL_step 11 rfl (by kernel_rfl) (fun w10 f10 s10 => ?_)
                      have RD10 : Hid (Reads w10 6 (some ⟨w9.heap.size, 0, none⟩) 1 (eds [cEd c])) := Lib.hid (((Blk.new w9 67 #[.int .i64 (cEd c).tag, .int .i64 (cEd c).op.kind, .int .i64 (cEd c).op.pos, .int .u8 ((cEd c).op.ch.toNat : Int), .int .i64 (cEd c).op.client, .int .i64 (cEd c).op.seq]).fr s10 fun h => h).reads0 rfl)
                      have RC10 := Lib.hid ((RC9.out.frn ((Fr.refl _ _).alloc _)).frn s10)
                      have F10 := Lib.hid f10
                      clear f10 s10 RC9 F9 F7
                      go_wp2_with fail
                      refine (edits_same _ _ 1 1 _ _ [cEd c] _ RC10.out RD10.out (by omega) (by omega)).mono ?_
                      rintro ev w11 ⟨rfl, hf11⟩
                      dsimp only
                      have F11 := Lib.hid (F10.out.trans' hf11)
                      clear hf11 F10 RC10 RD10
                      go_wp2_with fail
                      refine ⟨LC.mk F11.out, ?_⟩
                      refine wpL_heads 4 12 4 (by kernel_rfl) (by kernel_rfl) ?_ (by kernel_rfl)
                      simp only [List.take_succ_cons, List.take_zero, List.drop_succ_cons, List.drop_zero]
                      repeat (go_big_quiet_step (fail))
                      refine wpQuiet_nil ?_
                      refine wpL_step 16 rfl (by kernel_rfl) (fun w12 f12 s12 => ?_)
                      have F12 := Lib.hid f12
                      clear f12 s12 F11
                      go_wp2_with fail
                      refine (W2.out a r v e _ (HT.out.frn F12.out)).mono ?_
                      rintro ev w13 ⟨A3, q3, rfl, hq3, hr3, hf13⟩
                      dsimp only [List.length_cons, List.length_nil]
                      have F13 := Lib.hid (F12.out.trans' hf13)
                      clear hq3 hr3 hf13 F12
                      go_wp2_with fail
                      refine ⟨LC.mk F13.out, ?_⟩
                      refine wpL_heads 3 17 0 (by kernel_rfl) (by kernel_rfl) ?_ (by kernel_rfl)
                      simp only [List.take_succ_cons, List.take_zero, List.drop_succ_cons, List.drop_zero]
                      repeat (go_big_quiet_step (fail))
                      refine wpQuiet_nil ?_
                      refine wpL_done (by kernel_rfl) (fun w14 f14 s14 => ?_)
                      have F14 := Lib.hid (HF.out.trans' f14)
                      have f14' := Lib.hid f14
                      clear f14 s14 F13
                      go_wp2_with fail
                      go_meet
                      exact ⟨by first | rfl | trivial, Lib.hid (HT.out.frn f14'.out), F14⟩
                    · skip
                      have F7 := Lib.hid c7.fr
                      clear c7 s7 F6
                      go_wp2_with fail
                      refine ⟨LC.mk (F7.out.alloc _), fun w9 c9 s9 => ?_⟩
                      have RD9 : Hid (Reads w9 6 (some ⟨w7.heap.size, 0, none⟩) 1 (eds [cEd c])) := Lib.hid (((Blk.new w7 67 #[.int .i64 (cEd c).tag, .int .i64 (cEd c).op.kind, .int .i64 (cEd c).op.pos, .int .u8 ((cEd c).op.ch.toNat : Int), .int .i64 (cEd c).op.client, .int .i64 (cEd c).op.seq]).fr s9 fun h => h).reads0 rfl)
                      have F7 := Lib.hid c9.fr
                      clear c9 s9
                      go_wp2_with fail
                      refine (M1.out a r v e _ (HT.out.frn F7.out)).mono ?_
                      rintro ev wn ⟨A2, q2, rfl, hq2, hr2, hf2⟩
                      dsimp only [List.length_cons, List.length_nil]
                      have F8 := Lib.hid (F7.out.trans' hf2)
                      have RC := Lib.hid hr2
                      have RD10b := Lib.hid (RD9.out.frn hf2)
                      clear hq2 hr2 hf2 RD9
                      go_wp2_with fail
                      refine ⟨LC.mk F8.out, ?_⟩
                      refine wpL_step 11 rfl (by kernel_rfl) (fun w10 f10 s10 => ?_)
                      have RD10 := Lib.hid (RD10b.out.frn s10)
                      have RC10 := Lib.hid (RC.out.frn s10)
                      have F10 := Lib.hid f10
                      clear f10 s10 RD10b RC F8 F7
                      go_wp2_with fail
                      refine (edits_same _ _ 1 1 _ _ [cEd c] _ RC10.out RD10.out (by omega) (by omega)).mono ?_
                      rintro ev w11 ⟨rfl, hf11⟩
                      dsimp only
                      have F11 := Lib.hid (F10.out.trans' hf11)
                      clear hf11 F10 RC10 RD10
                      go_wp2_with fail
                      refine ⟨LC.mk F11.out, ?_⟩
                      refine wpL_heads 4 12 4 (by kernel_rfl) (by kernel_rfl) ?_ (by kernel_rfl)
                      simp only [List.take_succ_cons, List.take_zero, List.drop_succ_cons, List.drop_zero]
                      repeat (go_big_quiet_step (fail))
                      refine wpQuiet_nil ?_
                      refine wpL_step 16 rfl (by kernel_rfl) (fun w12 f12 s12 => ?_)
                      have F12 := Lib.hid f12
                      clear f12 s12 F11
                      go_wp2_with fail
                      refine (W2.out a r v e _ (HT.out.frn F12.out)).mono ?_
                      rintro ev w13 ⟨A3, q3, rfl, hq3, hr3, hf13⟩
                      dsimp only [List.length_cons, List.length_nil]
                      have F13 := Lib.hid (F12.out.trans' hf13)
                      clear hq3 hr3 hf13 F12
                      go_wp2_with fail
                      refine ⟨LC.mk F13.out, ?_⟩
                      refine wpL_heads 3 17 0 (by kernel_rfl) (by kernel_rfl) ?_ (by kernel_rfl)
                      simp only [List.take_succ_cons, List.take_zero, List.drop_succ_cons, List.drop_zero]
                      repeat (go_big_quiet_step (fail))
                      refine wpQuiet_nil ?_
                      refine wpL_done (by kernel_rfl) (fun w14 f14 s14 => ?_)
                      have F14 := Lib.hid (HF.out.trans' f14)
                      have f14' := Lib.hid f14
                      clear f14 s14 F13
                      go_wp2_with fail
                      go_meet
                      exact ⟨by first | rfl | trivial, Lib.hid (HT.out.frn f14'.out), F14⟩
                  · skip
                    have F1 := Lib.hid c1.fr
                    clear c1 s1
                    go_wp2_with fail
                    refine ⟨LC.mk (F1.out.alloc _), fun w3 c3 s3 => ?_⟩
                    have RB3 : Hid (RI w3 (some ⟨w1.heap.size, 0, none⟩) 2 [1, cRev c]) := Lib.hid (((Blk.new w1 3 #[.int .i64 1, .int .i64 (cRev c)]).fr s3 fun h => h).reads0 rfl)
                    have F1 := Lib.hid c3.fr
                    clear c3 s3
                    go_wp2_with fail
                    refine (KN.out a r v e _ (HT.out.frn F1.out)).mono ?_
                    rintro ev wn ⟨A1, q1, rfl, hq1, hr1, hf1⟩
                    dsimp only [List.length_cons, List.length_nil]
                    have F2 := Lib.hid (F1.out.trans' hf1)
                    have RA := Lib.hid hr1
                    have RB4 := Lib.hid (RB3.out.frn hf1)
                    clear hq1 hr1 hf1 RB3
                    go_wp2_with fail
                    refine ⟨LC.mk F2.out, ?_⟩
                    refine wpL_step 4 rfl (by kernel_rfl) (fun w5 f5 s5 => ?_)
                    have RB5 := Lib.hid (RB4.out.frn s5)
                    have RA5 := Lib.hid (RA.out.frn s5)
                    have F5 := Lib.hid f5
                    clear f5 s5 RB4 RA F2 F1
                    go_wp2_with fail
                    refine (ints_same _ _ 2 2 _ _ [1, cRev c] _ RA5.out RB5.out (by omega) (by omega)).mono ?_
                    rintro ev w6 ⟨rfl, hf6⟩
                    dsimp only
                    have F6 := Lib.hid (F5.out.trans' hf6)
                    clear hf6 F5 RA5 RB5
                    go_wp2_with fail
                    refine ⟨LC.mk F6.out, ?_⟩
                    refine wpL_heads 3 5 12 (by kernel_rfl) (by kernel_rfl) ?_ (by kernel_rfl)
                    simp only [List.take_succ_cons, List.take_zero, List.drop_succ_cons, List.drop_zero]
                    repeat (go_big_quiet_step (fail))
                    refine wpQuiet_nil ?_
                    have zq := ZQ.out
                    refine wpL_heads 1 9 11 (by kernel_rfl) (by kernel_rfl) ?_ (by kernel_rfl)
                    simp only [List.take_succ_cons, List.take_zero, List.drop_succ_cons, List.drop_zero]
                    repeat (go_big_quiet_step (fail))
                    refine wpQuiet_nil ?_
                    clear zq
                    refine wpS_two 8 10 rfl rfl (by kernel_rfl) (by kernel_rfl) (by kernel_rfl) (fun w7 c7 s7 => ?_) (fun w7 c7 s7 => ?_)
                    · skip
                      have F7 := Lib.hid c7.fr
                      clear c7 s7 F6
                      go_wp2_with fail
                      refine (M1.out a r v e _ (HT.out.frn F7.out)).mono ?_
                      rintro ev wn ⟨A2, q2, rfl, hq2, hr2, hf2⟩
                      dsimp only [List.length_cons, List.length_nil]
                      have F8 := Lib.hid (F7.out.trans' hf2)
                      have RC := Lib.hid hr2
                      clear hq2 hr2 hf2
                      go_wp2_with fail
                      refine ⟨LC.mk F8.out, fun w9 c9 s9 => ?_⟩
                      have F9 := Lib.hid c9.fr
                      have RC9 := Lib.hid (RC.out.frn s9)
                      clear c9 s9 RC F8
                      go_wp2_with fail
                      refine ⟨LC.mk (F9.out.alloc _), ?_⟩
                      refine wpL_step 11 rfl (by kernel_rfl) (fun w10 f10 s10 => ?_)
                      have RD10 : Hid (Reads w10 6 (some ⟨w9.heap.size, 0, none⟩) 1 (eds [cEd c])) := Lib.hid (((Blk.new w9 67 #[.int .i64 (cEd c).tag, .int .i64 (cEd c).op.kind, .int .i64 (cEd c).op.pos, .int .u8 ((cEd c).op.ch.toNat : Int), .int .i64 (cEd c).op.client, .int .i64 (cEd c).op.seq]).fr s10 fun h => h).reads0 rfl)
                      have RC10 := Lib.hid ((RC9.out.frn ((Fr.refl _ _).alloc _)).frn s10)
                      have F10 := Lib.hid f10
                      clear f10 s10 RC9 F9 F7
                      go_wp2_with fail
                      refine (edits_same _ _ 1 1 _ _ [cEd c] _ RC10.out RD10.out (by omega) (by omega)).mono ?_
                      rintro ev w11 ⟨rfl, hf11⟩
                      dsimp only
                      have F11 := Lib.hid (F10.out.trans' hf11)
                      clear hf11 F10 RC10 RD10
                      go_wp2_with fail
                      refine ⟨LC.mk F11.out, ?_⟩
                      refine wpL_heads 4 12 4 (by kernel_rfl) (by kernel_rfl) ?_ (by kernel_rfl)
                      simp only [List.take_succ_cons, List.take_zero, List.drop_succ_cons, List.drop_zero]
                      repeat (go_big_quiet_step (fail))
                      refine wpQuiet_nil ?_
                      refine wpL_step 16 rfl (by kernel_rfl) (fun w12 f12 s12 => ?_)
                      have F12 := Lib.hid f12
                      clear f12 s12 F11
                      go_wp2_with fail
                      refine (W2.out a r v e _ (HT.out.frn F12.out)).mono ?_
                      rintro ev w13 ⟨A3, q3, rfl, hq3, hr3, hf13⟩
                      dsimp only [List.length_cons, List.length_nil]
                      have F13 := Lib.hid (F12.out.trans' hf13)
                      clear hq3 hr3 hf13 F12
                      go_wp2_with fail
                      refine ⟨LC.mk F13.out, ?_⟩
                      refine wpL_heads 3 17 0 (by kernel_rfl) (by kernel_rfl) ?_ (by kernel_rfl)
                      simp only [List.take_succ_cons, List.take_zero, List.drop_succ_cons, List.drop_zero]
                      repeat (go_big_quiet_step (fail))
                      refine wpQuiet_nil ?_
                      refine wpL_done (by kernel_rfl) (fun w14 f14 s14 => ?_)
                      have F14 := Lib.hid (HF.out.trans' f14)
                      have f14' := Lib.hid f14
                      clear f14 s14 F13
                      go_wp2_with fail
                      go_meet
                      exact ⟨by first | rfl | trivial, Lib.hid (HT.out.frn f14'.out), F14⟩
                    · skip
                      have F7 := Lib.hid c7.fr
                      clear c7 s7 F6
                      go_wp2_with fail
                      refine ⟨LC.mk (F7.out.alloc _), fun w9 c9 s9 => ?_⟩
                      have RD9 : Hid (Reads w9 6 (some ⟨w7.heap.size, 0, none⟩) 1 (eds [cEd c])) := Lib.hid (((Blk.new w7 67 #[.int .i64 (cEd c).tag, .int .i64 (cEd c).op.kind, .int .i64 (cEd c).op.pos, .int .u8 ((cEd c).op.ch.toNat : Int), .int .i64 (cEd c).op.client, .int .i64 (cEd c).op.seq]).fr s9 fun h => h).reads0 rfl)
                      have F7 := Lib.hid c9.fr
                      clear c9 s9
                      go_wp2_with fail
                      refine (M1.out a r v e _ (HT.out.frn F7.out)).mono ?_
                      rintro ev wn ⟨A2, q2, rfl, hq2, hr2, hf2⟩
                      dsimp only [List.length_cons, List.length_nil]
                      have F8 := Lib.hid (F7.out.trans' hf2)
                      have RC := Lib.hid hr2
                      have RD10b := Lib.hid (RD9.out.frn hf2)
                      clear hq2 hr2 hf2 RD9
                      go_wp2_with fail
                      refine ⟨LC.mk F8.out, ?_⟩
                      refine wpL_step 11 rfl (by kernel_rfl) (fun w10 f10 s10 => ?_)
                      have RD10 := Lib.hid (RD10b.out.frn s10)
                      have RC10 := Lib.hid (RC.out.frn s10)
                      have F10 := Lib.hid f10
                      clear f10 s10 RD10b RC F8 F7
                      go_wp2_with fail
                      refine (edits_same _ _ 1 1 _ _ [cEd c] _ RC10.out RD10.out (by omega) (by omega)).mono ?_
                      rintro ev w11 ⟨rfl, hf11⟩
                      dsimp only
                      have F11 := Lib.hid (F10.out.trans' hf11)
                      clear hf11 F10 RC10 RD10
                      go_wp2_with fail
                      refine ⟨LC.mk F11.out, ?_⟩
                      refine wpL_heads 4 12 4 (by kernel_rfl) (by kernel_rfl) ?_ (by kernel_rfl)
                      simp only [List.take_succ_cons, List.take_zero, List.drop_succ_cons, List.drop_zero]
                      repeat (go_big_quiet_step (fail))
                      refine wpQuiet_nil ?_
                      refine wpL_step 16 rfl (by kernel_rfl) (fun w12 f12 s12 => ?_)
                      have F12 := Lib.hid f12
                      clear f12 s12 F11
                      go_wp2_with fail
                      refine (W2.out a r v e _ (HT.out.frn F12.out)).mono ?_
                      rintro ev w13 ⟨A3, q3, rfl, hq3, hr3, hf13⟩
                      dsimp only [List.length_cons, List.length_nil]
                      have F13 := Lib.hid (F12.out.trans' hf13)
                      clear hq3 hr3 hf13 F12
                      go_wp2_with fail
                      refine ⟨LC.mk F13.out, ?_⟩
                      refine wpL_heads 3 17 0 (by kernel_rfl) (by kernel_rfl) ?_ (by kernel_rfl)
                      simp only [List.take_succ_cons, List.take_zero, List.drop_succ_cons, List.drop_zero]
                      repeat (go_big_quiet_step (fail))
                      refine wpQuiet_nil ?_
                      refine wpL_done (by kernel_rfl) (fun w14 f14 s14 => ?_)
                      have F14 := Lib.hid (HF.out.trans' f14)
                      have f14' := Lib.hid f14
                      clear f14 s14 F13
                      go_wp2_with fail
                      go_meet
                      exact ⟨by first | rfl | trivial, Lib.hid (HT.out.frn f14'.out), F14⟩
                case rest =>
                  clear HT HF
                  obtain ⟨rfl, HT, HF⟩ := hcut
                  go_wp2_with fail
                  go_roundw
                  case rel => (repeat apply Exists.intro); (first | refine ⟨?_, rfl, HF.out⟩ | refine ⟨⟨?_, rfl, HF.out⟩, rfl⟩ | refine ⟨?_, rfl, HF.out, rfl⟩); have := HK.out; omega
                  case measure => have := HK.out; simp [intOf]; omega
end Go.Proofs.YtodkhoclbhdihaaGreatDoor
