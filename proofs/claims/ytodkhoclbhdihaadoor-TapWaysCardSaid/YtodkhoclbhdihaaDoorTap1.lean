/-
  A tap in memory; contracts of tap's New and together.
-/
import Derived.Test.YtodkhoclbhdihaaDoorAply
namespace Go.Proofs.YtodkhoclbhdihaaDoor
open Go.RowKit

def nameV (p : Int × Int) : Value := .agg #[.int .i64 p.1, .int .i64 p.2]
def editV (e : GEdit) : Value := .agg (.int .i64 e.tag :: opCells e.op).toArray
abbrev MR : TypeId := 59
abbrev MV : TypeId := 60
abbrev ME : TypeId := 61
abbrev NM : TypeId := 74
abbrev INT : TypeId := 3

theorem int_key : KeyOk Tryd.prog INT vi := key_now Tryd.underlying3 (fun a b => by simp [vi, Instr.sameNow, BEq.beq]) (fun k => rfl)
theorem run_eq_name (w : World) (a b : Int × Int) : (Op.equal NM (nameV a) (nameV b)).run Tryd.prog w = .ok (decide (a = b)) w := by
  obtain ⟨a1, a2⟩ := a
  obtain ⟨b1, b2⟩ := b
  unfold Op.equal nameV
  rw [show Op.maxDepth = 9999 + 1 from rfl, run_equalIn_struct w 9999 NM _ _ (by kernel_rfl) (by kernel_rfl)]
  simp [go_sem, Tryd.underlying74, Tryd.underlying3]
  by_cases h1 : a1 = b1 <;> by_cases h2 : a2 = b2 <;> simp [h1, h2]
theorem run_check_name (w : World) (em : Bool) (k : Int × Int) : (Instr.checkKey em 10000 NM (nameV k)).run Tryd.prog w = .ok () w := by kernel_rfl
theorem name_key : KeyOk Tryd.prog NM nameV := key_asking Tryd.underlying74 (fun a b => by rfl) run_eq_name run_check_name (fun k => by simp [nameV, Instr.sameBits])

abbrev OPT : TypeId := 23
theorem u8_eq {a b : UInt8} : ((a.toNat : Int) = (b.toNat : Int)) ↔ a = b := by
  constructor
  · intro h
    exact UInt8.toNat_inj.1 (by omega)
  · rintro rfl; rfl
theorem run_eq_op (w : World) (d : Nat) (a b : GOp) : (Op.equalIn (d + 2) OPT (opV a) (opV b)).run Tryd.prog w = .ok (decide (a = b)) w := by
  obtain ⟨a1, a2, a3, a4, a5⟩ := a
  obtain ⟨b1, b2, b3, b4, b5⟩ := b
  unfold opV opCells
  rw [run_equalIn_struct w (d + 1) OPT _ _ (by kernel_rfl) (by kernel_rfl)]
  simp [go_sem, Tryd.underlying23, Tryd.underlying3, Tryd.underlying5]
  by_cases h1 : a1 = b1
  · by_cases h2 : a2 = b2
    · by_cases h3 : a3 = b3
      · by_cases h4 : a4 = b4
        · by_cases h5 : a5 = b5 <;> simp [h1, h2, h3, h4, h5]
        · simp [h1, h2, h3, h4]
      · have h3' : ¬ ((a3.toNat : Int) = (b3.toNat : Int)) := fun h => h3 (u8_eq.1 h)
        simp [h1, h2, h3, h3']
    · simp [h1, h2]
  · simp [h1]
theorem neq_op (w : World) (a b : GOp) : (binOp .neq OPT (opV a) (opV b)).run Tryd.prog w = .ok (.bool (!decide (a = b))) w := by
  have h := run_eq_op w 9998 a b
  have h2 : (Op.equal OPT (opV a) (opV b)).run Tryd.prog w = .ok (decide (a = b)) w := h
  unfold opV at h2 ⊢
  simp [binOp, h2]
theorem run_eq_edit (w : World) (d : Nat) (a b : GEdit) : (Op.equalIn (d + 3) 76 (editV a) (editV b)).run Tryd.prog w = .ok (decide (a = b)) w := by
  obtain ⟨a0, a1, a2, a3, a4, a5⟩ := a
  obtain ⟨b0, b1, b2, b3, b4, b5⟩ := b
  unfold editV opCells
  rw [run_equalIn_struct w (d + 2) 76 _ _ (by kernel_rfl) (by kernel_rfl)]
  simp [go_sem, Tryd.underlying76, Tryd.underlying23, Tryd.underlying3, Tryd.underlying5]
  by_cases h0 : a0 = b0
  · by_cases h1 : a1 = b1
    · by_cases h2 : a2 = b2
      · by_cases h3 : a3 = b3
        · by_cases h4 : a4 = b4
          · by_cases h5 : a5 = b5 <;> simp [h0, h1, h2, h3, h4, h5]
          · simp [h0, h1, h2, h3, h4]
        · have h3' : ¬ ((a3.toNat : Int) = (b3.toNat : Int)) := fun h => h3 (u8_eq.1 h)
          simp [h0, h1, h2, h3, h3']
      · simp [h0, h1, h2]
    · simp [h0, h1]
  · simp [h0]
theorem neq_edit (w : World) (a b : GEdit) : (binOp .neq 76 (editV a) (editV b)).run Tryd.prog w = .ok (.bool (!decide (a = b))) w := by
  have h2 : (Op.equal 76 (editV a) (editV b)).run Tryd.prog w = .ok (decide (a = b)) w := run_eq_edit w 9997 a b
  unfold editV at h2 ⊢
  simp [binOp, h2]

theorem mk_info : ∀ w, (zeroValue OPT).run Tryd.prog w = .ok (opV zeroOp) w := fun w => by kernel_rfl
theorem mk_int : ∀ w, (zeroValue INT).run Tryd.prog w = .ok (vi 0) w := fun w => by kernel_rfl
def zeroEdit : GEdit := ⟨0, zeroOp⟩
theorem mk_edit : ∀ w, (zeroValue 76).run Tryd.prog w = .ok (editV zeroEdit) w := fun w => by kernel_rfl

/-- Block a is a tap that knows T; its maps lie in blocks r, v, e. -/
structure TapAt (w : World) (a r v e : Nat) (T : GTap) : Prop where
  blk : Blk w a 63 #[.int .i64 T.clients, .int .i64 T.epoch, .map (some r), .map (some v), .map (some e)]
  recs : MapAt vi opV w r T.records
  revs : MapAt nameV vi w v T.revs
  eds : MapAt nameV editV w e T.edits
  ne : a ≠ r ∧ a ≠ v ∧ a ≠ e ∧ r ≠ v ∧ r ≠ e ∧ v ≠ e
/-- The blocks of a tap. -/
def Its (a r v e : Nat) : Nat → Prop := fun k => k = a ∨ k = r ∨ k = v ∨ k = e
theorem TapAt.fr {w w' : World} {S : Nat → Prop} {a r v e : Nat} {T : GTap} (h : TapAt w a r v e T) (hf : Fr S w w') (hs : ∀ k, Its a r v e k → ¬ S k) : TapAt w' a r v e T :=
  ⟨h.blk.fr hf (hs _ (.inl rfl)), h.recs.fr hf (hs _ (.inr (.inl rfl))), h.revs.fr hf (hs _ (.inr (.inr (.inl rfl)))), h.eds.fr hf (hs _ (.inr (.inr (.inr rfl)))), h.ne⟩
theorem TapAt.frn {w w' : World} {a r v e : Nat} {T : GTap} (h : TapAt w a r v e T) (hf : Fr None' w w') : TapAt w' a r v e T := h.fr hf fun _ _ h => h
theorem TapAt.lt {w : World} {a r v e : Nat} {T : GTap} (h : TapAt w a r v e T) : ∀ k, Its a r v e k → k < w.heap.size := by
  rintro k (rfl | rfl | rfl | rfl)
  · exact h.blk.lt
  · exact h.recs.lt
  · exact h.revs.lt
  · exact h.eds.lt

theorem run_mkmap (t : TypeId) (w : World) : (Instr.makeMap t none).run Tryd.prog w = .ok (.map (some w.heap.size)) (w.alloc (.map #[] 0)) := by simp [Instr.makeMap]
def emptyT (n : Int) : GTap := ⟨n, 0, [], [], []⟩
theorem new_any (n : Int) (w : World) (h1 : 1 ≤ n) (h64 : n ≤ 64) : Calls Tryd.prog 9 #[.int .i64 n] w fun ev w' =>
    ∃ a r v e, ev = .returned (.tuple #[.pointer (some ⟨a, 0, none⟩), .int .i64 0]) ∧ TapAt w' a r v e (emptyT n) ∧ (∀ k, Its a r v e k → w.heap.size ≤ k) ∧ Fr None' w w' := by
  have d1 : decide (n < 1) = false := by simp; omega
  have d2 : decide (64 < n) = false := by simp; omega
  have HT : Hid (TapAt ((((w.alloc (.map #[] 0)).alloc (.map #[] 0)).alloc (.map #[] 0)).alloc (.cells #[.int .i64 n, .int .i64 0, .map (some w.heap.size), .map (some (w.heap.size + 1)), .map (some (w.heap.size + 2))] 63)) (w.heap.size + 3) w.heap.size (w.heap.size + 1) (w.heap.size + 2) (emptyT n)) := by
    refine ⟨?_, ?_, ?_, ?_, by omega⟩
    · have := Blk.new (((w.alloc (.map #[] 0)).alloc (.map #[] 0)).alloc (.map #[] 0)) 63 #[.int .i64 n, .int .i64 0, .map (some w.heap.size), .map (some (w.heap.size + 1)), .map (some (w.heap.size + 2))]
      have e3 : (((w.alloc (.map #[] 0)).alloc (.map #[] 0)).alloc (.map #[] 0)).heap.size = w.heap.size + 3 := by simp
      rw [e3] at this
      exact this
    · exact (((MapAt.new w).fr ((Fr.refl None' _).alloc _) fun h => h).fr ((Fr.refl None' _).alloc _) fun h => h).fr ((Fr.refl None' _).alloc _) fun h => h
    · have := (((MapAt.new (kv := nameV) (vv := vi) (w.alloc (.map #[] 0)))).fr ((Fr.refl None' _).alloc (.map #[] 0)) fun h => h).fr ((Fr.refl None' _).alloc (.cells #[.int .i64 n, .int .i64 0, .map (some w.heap.size), .map (some (w.heap.size + 1)), .map (some (w.heap.size + 2))] 63)) fun h => h
      have e1 : (w.alloc (.map #[] 0)).heap.size = w.heap.size + 1 := by simp
      rw [e1] at this
      exact this
    · have := (MapAt.new (kv := nameV) (vv := editV) ((w.alloc (.map #[] 0)).alloc (.map #[] 0))).fr ((Fr.refl None' _).alloc (.cells #[.int .i64 n, .int .i64 0, .map (some w.heap.size), .map (some (w.heap.size + 1)), .map (some (w.heap.size + 2))] 63)) fun h => h
      have e2 : ((w.alloc (.map #[] 0)).alloc (.map #[] 0)).heap.size = w.heap.size + 2 := by simp
      rw [e2] at this
      exact this
  have hmk := run_mkmap
  go_enter Tryd.func9, Tryd.ntmps9
  go_wp2
  go_ret2
  exact ⟨_, _, _, _, rfl, HT.out, by rintro k (rfl | rfl | rfl | rfl) <;> omega, (((((Fr.refl _ _).alloc _).alloc _).alloc _).alloc _)⟩

theorem together_any (a b : GOp) (w : World) : Calls Tryd.prog 40 #[opV a, opV b] w fun e w' => e = .returned (.bool (togetherB a b)) ∧ Fr None' w w' := by
  have HT : Hid (togetherB a b = (((a.kind == b.kind) && ((a.ch.toNat : Int) == (b.ch.toNat : Int))) || ((a.kind == 0) && (b.kind == 2)))) := by
    show togetherB a b = _
    unfold togetherB
    congr 2
    by_cases h : a.ch = b.ch
    · simp [h]
    · have h' : ¬ ((a.ch.toNat : Int) = (b.ch.toNat : Int)) := fun e => h (u8_eq.1 e)
      rw [decide_eq_false h]
      symm
      simpa using h'
  generalize togetherB a b = t at HT
  unfold opV opCells
  obtain ⟨a1, a2, a3, a4, a5⟩ := a
  obtain ⟨b1, b2, b3, b4, b5⟩ := b
  dsimp only at *
  generalize (a3.toNat : Int) = ac at *
  generalize (b3.toNat : Int) = bc at *
  cases h1 : (a1 == b1) <;> cases h2 : (ac == bc) <;> cases h3 : (a1 == 0) <;> cases h4 : (b1 == 2)
  all_goals
    rw [h1, h2, h3, h4] at HT
    go_enter Tryd.func40, Tryd.ntmps40
    go_wp2
    go_ret
    exact ⟨retB HT.out.symm, ((Fr.refl _ _).alloc _).alloc _⟩
end Go.Proofs.YtodkhoclbhdihaaDoor
