/-
  A script and a list of numbers as arguments, opened: the cells out of what they read as.
-/
import Derived.Test.YtodkhoclbhdihaaGreatDoorZ3
import Derived.ChangeSlices
import Derived.SizedLaws
import Derived.Carry
import Derived.Test.YtodkhoclbhdihaaGreatDoorZ0
namespace Go.Proofs.YtodkhoclbhdihaaGreatDoor
open Go.ChangeShapes Go.WideShapes Go.ChangeAt Go.RowKit

/-- One step of a script, with where its bytes lie. -/
structure GScr where
  kind : Int
  which : Bool
  fr : Int
  to_ : Int
  msg : GMsg
  bA : Option Addr
  bn : Nat
  bc : Nat
  bytes : List UInt8
  num : Int
def scrCells (o : GScr) : List Value := [.int .i64 o.kind, .bool o.which, .int .i64 o.fr, .int .i64 o.to_] ++ msgCells o.msg ++ [.slice o.bA o.bn o.bc, .int .i64 o.num]
def scrs (l : List GScr) : List Value := l.flatMap scrCells
/-- The bytes of a step can be read. -/
structure ScrOk (w : World) (o : GScr) : Prop where
  bytes : RB w o.bA o.bn o.bytes
  cap : o.bn ≤ o.bc
  len : o.bn ≤ 140737488355328
structure ScriptAt (w : World) (A : Option Addr) (n : Nat) (l : List GScr) : Prop where
  cells : Reads w 20 A n (scrs l)
  len : l.length = n
  each : ∀ o ∈ l, ScrOk w o
theorem scrs_len (l : List GScr) : (scrs l).length = l.length * 20 := by
  unfold scrs
  induction l with
  | nil => rfl
  | cons a l ih => rw [List.flatMap_cons, List.length_append, ih, List.length_cons]; simp [scrCells, msgCells, opCells]; omega
theorem ScrOk.frn {w w' : World} {o : GScr} (h : ScrOk w o) (hf : Fr None' w w') : ScrOk w' o := ⟨h.bytes.frn hf, h.cap, h.len⟩
theorem ScriptAt.frn {w w' : World} {A : Option Addr} {n : Nat} {l : List GScr} (h : ScriptAt w A n l) (hf : Fr None' w w') : ScriptAt w' A n l := ⟨h.cells.frn hf, h.len, fun o ho => (h.each o ho).frn hf⟩

section
variable {H : Type} {enc : TypeId × Value → H} {W : World} {base b0 : Nat} {sp : Nat → Bool} {held : Bool} {r : Reach}
theorem c_byt : Tryz.prog.cellsOf 48 = 1 := by kernel_rfl
theorem c_bool : Tryz.prog.cellsOf 4 = 1 := by kernel_rfl
theorem c_scr : Tryz.prog.cellsOf 50 = 20 := by kernel_rfl
theorem b_u8 : Tryz.prog.bytesOf 5 = 1 := by kernel_rfl
theorem b_int : Tryz.prog.bytesOf 3 = 8 := by kernel_rfl
theorem addr0' {w : World} {a : Addr} {v : Value} (h : w.cell? a = some v) : a = ⟨a.block, a.off, none⟩ := by
  obtain ⟨b, o, s⟩ := a
  cases s with
  | none => rfl
  | some x =>
    unfold World.cell? at h
    split at h <;> simp at h
theorem addr_none {w : World} {a : Addr} {v : Value} (h : w.cell? (a.add 0) = some v) : a = ⟨a.block, a.off, none⟩ := by
  have h' : w.cell? a = some v := by simpa [Addr.add] using h
  exact addr0' h'
theorem add_none (b o i : Nat) : (⟨b, o, none⟩ : Addr).add i = ⟨b, o + i, none⟩ := by
  unfold Addr.add
  split
  · rename_i h; subst h; rfl
  · rfl
/-- A slice of whole numbers, read. -/
theorem ints_read {P : Program} {t e : TypeId} {k : IntKind} {fuel : Nat} {cs : List Value} {x : DataW H × List MemPlace} (ht : P.underlying t = some (.slice e)) (he : P.underlying e = some (.int k)) (hc : P.cellsOf e = 1)
    (h : DataW.trod enc P W base sp held fuel t cs = some x) :
    ∃ (A : Option Addr) (n c : Nat) (zs : List Int), cs = [.slice A n c] ∧ n ≤ c ∧ zs.length = n ∧ Reads W 1 A n (zs.map (Value.int k)) ∧ (∀ z ∈ zs, (Lit.int k z).wf = true) ∧ n ≤ maxLen ∧ (n = 0 ∨ ∃ el rs, x.1 = .slice el rs ∧ el.length = n) := by
  rcases open_ints ht he hc h with ⟨rfl, rfl⟩ | ⟨a, len, cap, zs, rfl, _, hl, hm, hz, rfl, hcell, hw⟩
  · exact ⟨none, 0, 0, [], rfl, Nat.le_refl _, rfl, Reads.nil, fun z hz => (by cases hz), Nat.zero_le _, .inl rfl⟩
  · have hlz : len ≤ zs.length := by rw [hz]; split <;> omega
    refine ⟨some a, len, cap, zs.take len, rfl, hl, by rw [List.length_take]; omega, ?_, fun z hz => hw z (List.mem_of_mem_take hz), by omega, .inr ⟨_, _, rfl, by unfold lits; rw [List.length_map, List.length_take]; omega⟩⟩
    refine ⟨by rw [List.length_map, List.length_take]; omega, fun hn => ?_⟩
    have h0 := hcell 0 (by omega)
    have ha := addr_none h0
    have hb : a.block < W.heap.size := by
      rw [ha] at h0
      exact lt_of_cell (p := ⟨a.block, a.off, none⟩) (by simpa [Addr.add] using h0)
    refine ⟨a.block, a.off, by rw [← ha], hb, fun j u hu => ?_⟩
    have hj : j < len := by
      have := (List.getElem?_eq_some_iff.1 hu).1
      rw [List.length_map, List.length_take] at this
      omega
    have hcj := hcell j (by omega)
    rw [ha, add_none] at hcj
    rw [hcj]
    rw [List.getElem?_map, List.getElem?_take, if_pos hj] at hu
    obtain ⟨z, hz', rfl⟩ := Option.map_eq_some_iff.1 hu
    simp [List.getD, hz']
theorem bytes_of {zs : List Int} (h : ∀ z ∈ zs, (Lit.int .u8 z).wf = true) : zs.map (Value.int .u8) = (zs.map fun z => UInt8.ofNat z.toNat).map bv := by
  rw [List.map_map]
  refine List.map_congr_left fun z hz => ?_
  have := u8_of (h z hz)
  simp only [Function.comp, bv]
  rw [← this]
theorem bool_of {P : Program} {t : TypeId} {n : Nat} {cs : List Value} {i : Nat} {x : Option (DataW H × List MemPlace)} (ht : P.underlying t = some .bool) (hx : x.isSome = true) (h : DataW.trod enc P W base sp held n t ((cs.drop i).take 1) = x) :
    ∃ b, (cs.drop i).take 1 = [.bool b] ∧ x = some (.lit (.bool b), []) := by
  obtain ⟨y, hy⟩ := Option.isSome_iff_exists.1 hx
  rw [hy] at h
  obtain ⟨b, h1, h2⟩ := DataW.trod_bool ht h
  exact ⟨b, h1, by rw [hy, h2]⟩
theorem msg_of {n : Nat} {cs : List Value} {x : DataW H × List MemPlace} (h : DataW.trod enc Tryz.prog W base sp held n 28 cs = some x) : ∃ m, cs = msgCells m ∧ x = (msgD m, []) ∧ MsgOk m := by
  obtain ⟨m, h1, h2, h3, h4⟩ := open_msg_cells h
  exact ⟨m, h1, Prod.ext h2 h3, h4⟩
theorem weights_all {P : Program} {e : TypeId} {d : DataW H} : ∀ {l : List (DataW H)}, d ∈ l → ∀ {m : Nat}, m ∈ d.weights P e → m ∈ DataW.weightsAll P e l
  | a :: l, hd, m, hm => by
    unfold DataW.weightsAll
    rcases List.mem_cons.1 hd with rfl | hd
    · exact List.mem_append_left _ hm
    · exact List.mem_append_right _ (weights_all hd hm)
theorem scrs_drop (l : List GScr) (k : Nat) : (scrs l).drop (k * 20) = scrs (l.drop k) := by
  unfold scrs
  induction l generalizing k with
  | nil => simp
  | cons a l ih =>
    cases k with
    | zero => simp
    | succ k =>
      rw [List.flatMap_cons, List.drop_succ_cons, show (k + 1) * 20 = (scrCells a).length + k * 20 by simp [scrCells, msgCells, opCells]; omega, List.drop_length_add_append, ih]
theorem scrs_at {l : List GScr} {k j : Nat} (hk : k < l.length) (hj : j < 20) : (scrs l)[k * 20 + j]? = (scrCells l[k])[j]? := by
  rw [← List.getElem?_drop, scrs_drop, List.drop_eq_getElem_cons hk]
  show ((scrCells l[k]) ++ scrs (l.drop (k + 1)))[j]? = _
  rw [List.getElem?_append_left (by show j < 20; exact hj)]
set_option maxRecDepth 100000 in
set_option maxHeartbeats 4000000 in
theorem open_scr {n : Nat} {cs : List Value} {x : DataW H × List MemPlace} (h : DataW.trod enc Tryz.prog W base sp held n 50 cs = some x) (hw : ∀ m ∈ x.1.weights Tryz.prog 50, m ≤ reachBytes) :
    ∃ o, cs = scrCells o ∧ ScrOk W o := by
  obtain ⟨xs, m, _, hx, hl, hlen, hf⟩ := DataW.trod_struct Tryz.underlying50 h
  have hlen' : xs.length = 7 := hlen
  rw [c_scr] at hl
  match xs, hlen' with
  | [x0, x1, x2, x3, x4, x5, x6], _ =>
    have h0 := hf 0 _ rfl; have h1 := hf 1 _ rfl; have h2 := hf 2 _ rfl; have h3 := hf 3 _ rfl; have h4 := hf 4 _ rfl; have h5 := hf 5 _ rfl; have h6 := hf 6 _ rfl
    simp only [List.getElem_toArray, List.getElem_cons_zero, List.getElem_cons_succ, c_int, c_bool, c_msg, c_byt] at h0 h1 h2 h3 h4 h5 h6
    obtain ⟨z0, t0, e0, w0⟩ := cell_of Tryz.underlying3 rfl h0
    obtain ⟨z2, t2, e2, w2⟩ := cell_of Tryz.underlying3 rfl h2
    obtain ⟨z3, t3, e3, w3⟩ := cell_of Tryz.underlying3 rfl h3
    obtain ⟨z6, t6, e6, w6⟩ := cell_of Tryz.underlying3 rfl h6
    obtain ⟨b1, t1, e1⟩ := bool_of Tryz.underlying4 rfl h1
    obtain ⟨m0, t4, e4, w4⟩ := msg_of (x := x4) (by rw [h4]; rfl)
    have h5' : DataW.trod enc Tryz.prog W base sp held m 48 ((cs.drop 18).take 1) = some x5 := by rw [h5]; rfl
    obtain ⟨A, bn, bc, zs, t5, k1, k2, k3, k4, _, k6⟩ := ints_read Tryz.underlying48 Tryz.underlying5 c_u8 h5'
    have hb : bn ≤ 140737488355328 := by
      rcases k6 with k6 | ⟨el, rs, k6, k7⟩
      · omega
      · have hm := hw ((el.length + rs.length) * Tryz.prog.bytesOf 5) (by
          rw [hx]
          have hu : Tryz.prog.underlying 50 = _ := Tryz.underlying50
          simp only [List.map_cons, List.map_nil, DataW.weights, hu, DataW.weightsEach, k6, Tryz.underlying48, List.mem_append, List.mem_cons]
          simp)
        rw [b_u8] at hm
        have : reachBytes ≤ 140737488355328 := by decide
        omega
    have hL : cs = (cs.drop 0).take 1 ++ ((cs.drop 1).take 1 ++ ((cs.drop 2).take 1 ++ ((cs.drop 3).take 1 ++ ((cs.drop 4).take 14 ++ ((cs.drop 18).take 1 ++ (cs.drop 19).take 1))))) := by
      match cs, hl with
      | [a0, a1, a2, a3, a4, a5, a6, a7, a8, a9, a10, a11, a12, a13, a14, a15, a16, a17, a18, a19], _ => rfl
    rw [t0, t1, t2, t3, t4, t5, t6] at hL
    refine ⟨⟨z0, b1, z2, z3, m0, A, bn, bc, zs.map fun z => UInt8.ofNat z.toNat, z6⟩, ?_, ⟨?_, k1, hb⟩⟩
    · rw [hL]
      unfold scrCells
      simp
    · show Reads W 1 A bn _
      rw [← bytes_of k4]
      exact k3
set_option maxRecDepth 100000 in
/-- A script, read. -/
theorem open_script {v : Value} {d : DataW H} {ps : List MemPlace} (hval : Value.okWide Tryz.prog W r b0 44 v) (hd : DataW.Trod enc Tryz.prog W base sp held 44 v d ps) (hw : ∀ m ∈ d.weights Tryz.prog 44, m ≤ reachBytes) :
    ∃ A n c l, v = .slice A n c ∧ n ≤ c ∧ n ≤ 140737488355328 ∧ ScriptAt W A n l := by
  obtain ⟨A0, n0, c0, rfl⟩ := okWide_slice Tryz.underlying44 hval
  obtain ⟨fuel, hf⟩ := hd
  have hcc : (Value.slice A0 n0 c0).cells.toList = [.slice A0 n0 c0] := rfl
  rw [hcc] at hf
  rcases DataW.trod_slice Tryz.underlying44 hf with ⟨h1, _⟩ | ⟨a, len, cap, elems, rest, m, _, h1, h2, _, hl, _, hlen, hel, _⟩
  · cases h1
    exact ⟨none, 0, 0, [], rfl, Nat.le_refl _, Nat.zero_le _, Reads.nil, rfl, fun o ho => (by cases ho)⟩
  · cases h1
    obtain ⟨h2a, h2b⟩ := Prod.mk.inj h2
    rw [c_scr] at hel
    have hwt : ∀ m ∈ (elems.length + rest.length) * Tryz.prog.bytesOf 50 :: (DataW.weightsAll Tryz.prog 50 (elems.map (·.1)) ++ DataW.weightsAll Tryz.prog 50 (rest.map (·.1))), m ≤ reachBytes := fun m hm => hw m (by
      rw [h2a]
      simp only [DataW.weights, Tryz.underlying44, List.length_map]
      exact hm)
    have hb1 : 1 ≤ Tryz.prog.bytesOf 50 := by decide +kernel
    have hn : n0 ≤ 140737488355328 := by
      have := hwt _ (List.mem_cons_self ..)
      have h3 : reachBytes ≤ 140737488355328 := by decide
      have h4 := Nat.mul_le_mul_left (elems.length + rest.length) hb1
      omega
    have each : ∀ i, i < n0 → ∃ o, ScrOk W o ∧ ∀ j, j < 20 → W.cell? (a.add (i * 20 + j)) = (scrCells o)[j]? := fun i hi => by
      have h3 := hel i hi
      have h4 : elems[i]? = some (elems[i]'(by omega)) := List.getElem?_eq_getElem (by omega)
      rw [h4] at h3
      simp only [Option.bind_eq_some_iff] at h3
      obtain ⟨cs, hcs, htr⟩ := h3
      obtain ⟨o, rfl, hok⟩ := open_scr htr fun m hm => hwt m (List.mem_cons_of_mem _ (List.mem_append_left _ (weights_all (List.mem_map.2 ⟨_, List.getElem_mem (by omega), rfl⟩) hm)))
      refine ⟨o, hok, fun j hj => ?_⟩
      have := (World.cells?_some hcs).2.2 j hj
      rw [← this]
      simp [Addr.add_add]
    have hx : ∃ l : List GScr, l.length = n0 ∧ ∀ i (hi : i < l.length), ScrOk W l[i] ∧ ∀ j, j < 20 → W.cell? (a.add (i * 20 + j)) = (scrCells l[i])[j]? := by
      refine ⟨List.ofFn fun i : Fin n0 => (each i.1 i.2).choose, by simp, fun i hi => ?_⟩
      have hi' : i < n0 := by simpa using hi
      have := (each i hi').choose_spec
      simpa using this
    obtain ⟨l, hll, hle⟩ := hx
    refine ⟨some a, n0, c0, l, rfl, hl, hn, ⟨by rw [scrs_len, hll], fun hn0 => ?_⟩, hll, fun o ho => ?_⟩
    · have h0 := (hle 0 (by omega)).2 0 (by omega)
      have hc0 : (scrCells l[0])[0]? = some (.int .i64 l[0].kind) := rfl
      rw [hc0] at h0
      have ha := addr_none (a := a) (by simpa using h0)
      have hb : a.block < W.heap.size := by
        rw [ha, add_none] at h0
        exact lt_of_cell (p := ⟨a.block, a.off + (0 * 20 + 0), none⟩) h0
      refine ⟨a.block, a.off, by rw [← ha], hb, fun j u hu => ?_⟩
      have hj : j < n0 * 20 := by
        have := (List.getElem?_eq_some_iff.1 hu).1
        rw [scrs_len, hll] at this
        exact this
      have hjq : j / 20 < l.length := by omega
      have h5 := (hle (j / 20) hjq).2 (j % 20) (by omega)
      rw [show j / 20 * 20 + j % 20 = j by omega, ha, add_none] at h5
      rw [h5, ← hu]
      exact (scrs_at hjq (by omega)).symm.trans (by rw [show j / 20 * 20 + j % 20 = j by omega])
    · obtain ⟨i, hi, rfl⟩ := List.getElem_of_mem ho
      exact (hle i hi).1
set_option maxRecDepth 100000 in
/-- A list of numbers, read. -/
theorem open_nums {v : Value} {d : DataW H} {ps : List MemPlace} (hval : Value.okWide Tryz.prog W r b0 22 v) (hd : DataW.Trod enc Tryz.prog W base sp held 22 v d ps) (hw : ∀ m ∈ d.weights Tryz.prog 22, m ≤ reachBytes) :
    ∃ A n c zs, v = .slice A n c ∧ n ≤ c ∧ n ≤ 140737488355328 ∧ RI W A n zs ∧ ∀ z ∈ zs, wf64 z := by
  obtain ⟨A0, n0, c0, rfl⟩ := okWide_slice Tryz.underlying22 hval
  obtain ⟨fuel, hf⟩ := hd
  have hcc : (Value.slice A0 n0 c0).cells.toList = [.slice A0 n0 c0] := rfl
  rw [hcc] at hf
  obtain ⟨A, n, c, zs, h1, h2, h3, h4, h5, _, h7⟩ := ints_read Tryz.underlying22 Tryz.underlying3 c_int hf
  cases h1
  refine ⟨A0, n0, c0, zs, rfl, h2, ?_, h4, h5⟩
  rcases h7 with h7 | ⟨el, rs, h7, h8⟩
  · omega
  · dsimp only at h7
    have hm := hw ((el.length + rs.length) * Tryz.prog.bytesOf 3) (by
      rw [h7]
      simp only [DataW.weights, Tryz.underlying22]
      exact List.mem_cons_self ..)
    rw [b_int] at hm
    have : reachBytes ≤ 140737488355328 := by decide
    omega
end
end Go.Proofs.YtodkhoclbhdihaaGreatDoor

/-
  A load of many cells, at the operation: its run is given, so that no walk goes through it cell by cell. No program in it.
-/
namespace Go.Proofs.YtodkhoclbhdihaaGreatDoor

section
variable {P : Program} {w w' : World}
/-- An operation whose run is known. -/
theorem wpList_run {ops : Array Oper} {rest : List Oper} {o : Oper} {a : Act} {Q : Exit → Act → World → Prop} {v : Value} (hgd : o.guard = none) (hr : (execOp a.eval o).run P w = .ok (.value v) w')
    (h : wpList P ops Q rest (a.put o.dst v) w') : wpList P ops Q (o :: rest) a w :=
  wpList_plain hgd fun _ hK => by
    unfold Oper.wp
    rw [hr]
    exact hK _ _ h
/-- A load of an aggregate whose cells are known. -/
theorem load_run {o : Oper} {a : Act} {t : TypeId} {x : Operand} {p : Addr} {k : Nat} {arr : Array Value} (ho : o.op = .load t x) (hx : a.eval x = .pointer (some p)) (hagg : (isAgg t).run P w = .ok true w) (hsz : (sizeOf t).run P w = .ok k w)
    (hld : (loadCells p k).run P w = .ok arr w) : (execOp a.eval o).run P w = .ok (.value (.agg arr)) w := by
  unfold execOp
  simp only [ho, Instr.loadAt, hx]
  simp [Instr.sureAddr, loadVar, hagg, hsz, hld]
end
end Go.Proofs.YtodkhoclbhdihaaGreatDoor
