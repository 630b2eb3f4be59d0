/-
  A message and a way as arguments, opened: the cells out of what they read as.
-/
import Derived.Test.YtodkhoclbhdihaaDoorOpen
namespace Go.Proofs.YtodkhoclbhdihaaDoor
open Go.ChangeShapes Go.WideShapes Go.ChangeAt Go.RowKit

section
variable {H : Type} {enc : TypeId × Value → H} {W : World} {base b0 : Nat} {sp : Nat → Bool} {held : Bool} {r : Reach}
theorem c_int : Tryd.prog.cellsOf 3 = 1 := by kernel_rfl
theorem c_u8 : Tryd.prog.cellsOf 5 = 1 := by kernel_rfl
theorem c_op : Tryd.prog.cellsOf 23 = 5 := by kernel_rfl
theorem c_msg : Tryd.prog.cellsOf 25 = 14 := by kernel_rfl
theorem c_way : Tryd.prog.cellsOf 27 = 2 := by kernel_rfl
theorem u8_of {z : Int} (h : (Lit.int .u8 z).wf = true) : z = ((UInt8.ofNat z.toNat).toNat : Int) := by
  simp only [Lit.wf, Bool.and_eq_true, decide_eq_true_eq] at h
  have h1 : (0 : Int) ≤ z := h.1
  have h2 : z ≤ (255 : Int) := h.2
  rw [UInt8.toNat_ofNat']
  omega
set_option maxRecDepth 100000 in
theorem open_op {n : Nat} {cs : List Value} {x : DataW H × List MemPlace} (h : DataW.trod enc Tryd.prog W base sp held n 23 cs = some x) : ∃ o, cs = opCells o ∧ x = (opD o, []) ∧ OpOk o := by
  obtain ⟨xs, m, _, hx, hl, hlen, hf⟩ := DataW.trod_struct Tryd.underlying23 h
  have hlen' : xs.length = 5 := hlen
  rw [c_op] at hl
  match xs, hlen' with
  | [x0, x1, x2, x3, x4], _ =>
    have h0 := hf 0 _ rfl; have h1 := hf 1 _ rfl; have h2 := hf 2 _ rfl; have h3 := hf 3 _ rfl; have h4 := hf 4 _ rfl
    simp only [List.getElem_toArray, List.getElem_cons_zero, List.getElem_cons_succ, c_int, c_u8] at h0 h1 h2 h3 h4
    obtain ⟨z0, t0, e0, w0⟩ := cell_of Tryd.underlying3 rfl h0
    obtain ⟨z1, t1, e1, w1⟩ := cell_of Tryd.underlying3 rfl h1
    obtain ⟨z2, t2, e2, w2⟩ := cell_of Tryd.underlying5 rfl h2
    obtain ⟨z3, t3, e3, w3⟩ := cell_of Tryd.underlying3 rfl h3
    obtain ⟨z4, t4, e4, w4⟩ := cell_of Tryd.underlying3 rfl h4
    match cs, hl with
    | [a0, a1, a2, a3, a4], _ =>
      simp at t0 t1 t2 t3 t4 e0 e1 e2 e3 e4
      subst t0 t1 t2 t3 t4 e0 e1 e2 e3 e4
      have hz := u8_of w2
      refine ⟨⟨z0, z1, UInt8.ofNat z2.toNat, z3, z4⟩, ?_, ?_, ⟨w0, w1, w3, w4⟩⟩
      · unfold opCells; dsimp only; rw [← hz]
      · rw [hx]; unfold opD i64D; dsimp only; rw [← hz]; rfl
set_option maxRecDepth 100000 in
theorem open_msg {v : Value} {d : DataW H} {ps : List MemPlace} (hval : Value.okWide Tryd.prog W r b0 25 v) (hd : DataW.Trod enc Tryd.prog W base sp held 25 v d ps) : ∃ m, v = msgV m ∧ d = msgD m ∧ ps = [] ∧ MsgOk m := by
  obtain ⟨cs, rfl, hcs⟩ := okWide_struct Tryd.underlying25 hval
  obtain ⟨n, h⟩ := hd
  obtain ⟨xs, m, _, hx, hl, hlen, hf⟩ := DataW.trod_struct Tryd.underlying25 h
  have hlen' : xs.length = 10 := hlen
  rw [c_msg] at hl
  have hcc : (Value.agg cs).cells.toList = cs.toList := by simp [Value.cells]
  rw [hcc] at hl hf
  match xs, hlen' with
  | [x0, x1, x2, x3, x4, x5, x6, x7, x8, x9], _ =>
    have h0 := hf 0 _ rfl; have h1 := hf 1 _ rfl; have h2 := hf 2 _ rfl; have h3 := hf 3 _ rfl; have h4 := hf 4 _ rfl
    have h5 := hf 5 _ rfl; have h6 := hf 6 _ rfl; have h7 := hf 7 _ rfl; have h8 := hf 8 _ rfl; have h9 := hf 9 _ rfl
    simp only [List.getElem_toArray, List.getElem_cons_zero, List.getElem_cons_succ, c_int, c_op] at h0 h1 h2 h3 h4 h5 h6 h7 h8 h9
    obtain ⟨z0, t0, e0, w0⟩ := cell_of Tryd.underlying3 rfl h0
    obtain ⟨z1, t1, e1, w1⟩ := cell_of Tryd.underlying3 rfl h1
    obtain ⟨z2, t2, e2, w2⟩ := cell_of Tryd.underlying3 rfl h2
    obtain ⟨z3, t3, e3, w3⟩ := cell_of Tryd.underlying3 rfl h3
    obtain ⟨z4, t4, e4, w4⟩ := cell_of Tryd.underlying3 rfl h4
    obtain ⟨z5, t5, e5, w5⟩ := cell_of Tryd.underlying3 rfl h5
    obtain ⟨z6, t6, e6, w6⟩ := cell_of Tryd.underlying3 rfl h6
    obtain ⟨z7, t7, e7, w7⟩ := cell_of Tryd.underlying3 rfl h7
    obtain ⟨z8, t8, e8, w8⟩ := cell_of Tryd.underlying3 rfl h8
    obtain ⟨o, to_, eo, wo⟩ := open_op (x := x9) (by rw [h9]; rfl)
    obtain ⟨L⟩ := cs
    try dsimp only at *
    match L, hl with
    | [a0, a1, a2, a3, a4, a5, a6, a7, a8, a9, a10, a11, a12, a13], _ =>
      simp at t0 t1 t2 t3 t4 t5 t6 t7 t8 e0 e1 e2 e3 e4 e5 e6 e7 e8 to_
      subst t0 t1 t2 t3 t4 t5 t6 t7 t8 e0 e1 e2 e3 e4 e5 e6 e7 e8 eo
      refine ⟨⟨z0, z1, z2, z3, z4, z5, z6, z7, z8, o⟩, ?_, ?_, ?_, ⟨⟨w0, w1, w2, w3, w4, w5, w6, w7, w8⟩, wo⟩⟩
      · unfold msgV msgCells
        rw [← to_]
        rfl
      · exact congrArg Prod.fst hx
      · exact congrArg Prod.snd hx
def wayV (a b : Int) : Value := .agg #[.int .i64 a, .int .i64 b]
def wayD (a b : Int) : DataW H := .agg [i64D a, i64D b]
set_option maxRecDepth 100000 in
theorem open_way {v : Value} {d : DataW H} {ps : List MemPlace} (hval : Value.okWide Tryd.prog W r b0 27 v) (hd : DataW.Trod enc Tryd.prog W base sp held 27 v d ps) : ∃ a b, v = wayV a b ∧ d = wayD a b ∧ ps = [] ∧ wf64 a ∧ wf64 b := by
  obtain ⟨cs, rfl, hcs⟩ := okWide_struct Tryd.underlying27 hval
  obtain ⟨n, h⟩ := hd
  obtain ⟨y0, y1, m, hx, hl, h0, h1⟩ := trod_struct2 Tryd.underlying27 h
  rw [c_way] at hl
  have hcc : (Value.agg cs).cells.toList = cs.toList := by simp [Value.cells]
  rw [hcc] at hl h0 h1
  try dsimp only at h0 h1
  rw [c_int] at h0 h1
  obtain ⟨z0, t0, e0, w0⟩ := cell_of Tryd.underlying3 rfl h0
  obtain ⟨z1, t1, e1, w1⟩ := cell_of Tryd.underlying3 rfl h1
  obtain ⟨L⟩ := cs
  try dsimp only at *
  match L, hl with
  | [a0, a1], _ =>
    simp at t0 t1 e0 e1
    subst t0 t1 e0 e1
    exact ⟨z0, z1, rfl, congrArg Prod.fst hx, congrArg Prod.snd hx, w0, w1⟩
set_option maxRecDepth 100000 in
theorem shut_way (a b : Int) (h1 : wf64 a) (h2 : wf64 b) : DataW.Trod enc Tryd.prog W base sp held 27 (wayV a b) (wayD a b) [] := by
  unfold wf64 at *
  refine ⟨2, ?_⟩
  have := trod_struct_mk (enc := enc) (w := W) (base := base) (spare := sp) (held := held) (n := 1) (cs := [.int .i64 a, .int .i64 b]) (xs := [(i64D a, []), (i64D b, [])]) Tryd.underlying27 (by kernel_rfl) (by
    simp [DataW.trod, i64D, Tryd.underlying3, h1, h2, c_int])
  simpa [wayD, wayV, Value.cells] using this
theorem wf_range {z : Int} (h : wf64 z) : -9223372036854775808 ≤ z ∧ z ≤ 9223372036854775807 := by
  unfold wf64 at h
  simp only [Lit.wf, Bool.and_eq_true, decide_eq_true_eq] at h
  exact h
end
end Go.Proofs.YtodkhoclbhdihaaDoor
