/-
  A message as argument, opened: the cells out of what they read as.
-/
import Derived.Test.YtodkhoclbhdihaaGreatDoorZ2
import Derived.WalkKit
import Derived.ProofKit
import Derived.Carry
import Derived.LaidMore
import Derived.Stop.Joined
import Derived.SevenTiedAt
import Derived.Test.YtodkhoclbhdihaaGreatDoorZ1
import Derived.Test.YtodkhoclbhdihaaGreatDoorZ0
import Derived.Maps.RangeRun
namespace Go.Proofs.YtodkhoclbhdihaaGreatDoor
open Go.ChangeShapes Go.WideShapes Go.ChangeAt Go.RowKit

section
variable {H : Type} {enc : TypeId × Value → H} {W : World} {base b0 : Nat} {sp : Nat → Bool} {held : Bool} {r : Reach}
theorem c_int : Tryz.prog.cellsOf 3 = 1 := by kernel_rfl
theorem c_u8 : Tryz.prog.cellsOf 5 = 1 := by kernel_rfl
theorem c_op : Tryz.prog.cellsOf 26 = 5 := by kernel_rfl
theorem c_msg : Tryz.prog.cellsOf 28 = 14 := by kernel_rfl
theorem u8_of {z : Int} (h : (Lit.int .u8 z).wf = true) : z = ((UInt8.ofNat z.toNat).toNat : Int) := by
  simp only [Lit.wf, Bool.and_eq_true, decide_eq_true_eq] at h
  have h1 : (0 : Int) ≤ z := h.1
  have h2 : z ≤ (255 : Int) := h.2
  rw [UInt8.toNat_ofNat']
  omega
set_option maxRecDepth 100000 in
theorem open_op {n : Nat} {cs : List Value} {x : DataW H × List MemPlace} (h : DataW.trod enc Tryz.prog W base sp held n 26 cs = some x) : ∃ o, cs = opCells o ∧ x = (opD o, []) ∧ OpOk o := by
  obtain ⟨xs, m, _, hx, hl, hlen, hf⟩ := DataW.trod_struct Tryz.underlying26 h
  have hlen' : xs.length = 5 := hlen
  rw [c_op] at hl
  match xs, hlen' with
  | [x0, x1, x2, x3, x4], _ =>
    have h0 := hf 0 _ rfl; have h1 := hf 1 _ rfl; have h2 := hf 2 _ rfl; have h3 := hf 3 _ rfl; have h4 := hf 4 _ rfl
    simp only [List.getElem_toArray, List.getElem_cons_zero, List.getElem_cons_succ, c_int, c_u8] at h0 h1 h2 h3 h4
    obtain ⟨z0, t0, e0, w0⟩ := cell_of Tryz.underlying3 rfl h0
    obtain ⟨z1, t1, e1, w1⟩ := cell_of Tryz.underlying3 rfl h1
    obtain ⟨z2, t2, e2, w2⟩ := cell_of Tryz.underlying5 rfl h2
    obtain ⟨z3, t3, e3, w3⟩ := cell_of Tryz.underlying3 rfl h3
    obtain ⟨z4, t4, e4, w4⟩ := cell_of Tryz.underlying3 rfl h4
    match cs, hl with
    | [a0, a1, a2, a3, a4], _ =>
      simp at t0 t1 t2 t3 t4 e0 e1 e2 e3 e4
      subst t0 t1 t2 t3 t4 e0 e1 e2 e3 e4
      have hz := u8_of w2
      refine ⟨⟨z0, z1, UInt8.ofNat z2.toNat, z3, z4⟩, ?_, ?_, ⟨w0, w1, w3, w4⟩⟩
      · unfold opCells; dsimp only; rw [← hz]
      · rw [hx]; unfold opD i64D; dsimp only; rw [← hz]; rfl
set_option maxRecDepth 100000 in
theorem open_msg_cells {n : Nat} {cs : List Value} {x : DataW H × List MemPlace} (h : DataW.trod enc Tryz.prog W base sp held n 28 cs = some x) : ∃ m, cs = msgCells m ∧ x.1 = msgD m ∧ x.2 = [] ∧ MsgOk m := by
  obtain ⟨xs, m, _, hx, hl, hlen, hf⟩ := DataW.trod_struct Tryz.underlying28 h
  have hlen' : xs.length = 10 := hlen
  rw [c_msg] at hl
  match xs, hlen' with
  | [x0, x1, x2, x3, x4, x5, x6, x7, x8, x9], _ =>
    have h0 := hf 0 _ rfl; have h1 := hf 1 _ rfl; have h2 := hf 2 _ rfl; have h3 := hf 3 _ rfl; have h4 := hf 4 _ rfl
    have h5 := hf 5 _ rfl; have h6 := hf 6 _ rfl; have h7 := hf 7 _ rfl; have h8 := hf 8 _ rfl; have h9 := hf 9 _ rfl
    simp only [List.getElem_toArray, List.getElem_cons_zero, List.getElem_cons_succ, c_int, c_op] at h0 h1 h2 h3 h4 h5 h6 h7 h8 h9
    obtain ⟨z0, t0, e0, w0⟩ := cell_of Tryz.underlying3 rfl h0
    obtain ⟨z1, t1, e1, w1⟩ := cell_of Tryz.underlying3 rfl h1
    obtain ⟨z2, t2, e2, w2⟩ := cell_of Tryz.underlying3 rfl h2
    obtain ⟨z3, t3, e3, w3⟩ := cell_of Tryz.underlying3 rfl h3
    obtain ⟨z4, t4, e4, w4⟩ := cell_of Tryz.underlying3 rfl h4
    obtain ⟨z5, t5, e5, w5⟩ := cell_of Tryz.underlying3 rfl h5
    obtain ⟨z6, t6, e6, w6⟩ := cell_of Tryz.underlying3 rfl h6
    obtain ⟨z7, t7, e7, w7⟩ := cell_of Tryz.underlying3 rfl h7
    obtain ⟨z8, t8, e8, w8⟩ := cell_of Tryz.underlying3 rfl h8
    obtain ⟨o, to_, eo, wo⟩ := open_op (x := x9) (by rw [h9]; rfl)
    match cs, hl with
    | [a0, a1, a2, a3, a4, a5, a6, a7, a8, a9, a10, a11, a12, a13], _ =>
      simp at t0 t1 t2 t3 t4 t5 t6 t7 t8 e0 e1 e2 e3 e4 e5 e6 e7 e8 to_
      subst t0 t1 t2 t3 t4 t5 t6 t7 t8 e0 e1 e2 e3 e4 e5 e6 e7 e8 eo
      refine ⟨⟨z0, z1, z2, z3, z4, z5, z6, z7, z8, o⟩, ?_, ?_, ?_, ⟨⟨w0, w1, w2, w3, w4, w5, w6, w7, w8⟩, wo⟩⟩
      · unfold msgCells
        rw [← to_]
        rfl
      · exact congrArg Prod.fst hx
      · exact congrArg Prod.snd hx
set_option maxRecDepth 100000 in
theorem open_msg {v : Value} {d : DataW H} {ps : List MemPlace} (hval : Value.okWide Tryz.prog W r b0 28 v) (hd : DataW.Trod enc Tryz.prog W base sp held 28 v d ps) : ∃ m, v = msgV m ∧ d = msgD m ∧ ps = [] ∧ MsgOk m := by
  obtain ⟨cs, rfl, hcs⟩ := okWide_struct Tryz.underlying28 hval
  obtain ⟨n, h⟩ := hd
  obtain ⟨m, h1, h2, h3, h4⟩ := open_msg_cells h
  refine ⟨m, ?_, h2, h3, h4⟩
  have hcc : (Value.agg cs).cells.toList = cs.toList := by simp [Value.cells]
  rw [hcc] at h1
  unfold msgV
  rw [← h1]
theorem wf_range {z : Int} (h : wf64 z) : -9223372036854775808 ≤ z ∧ z ≤ 9223372036854775807 := by
  unfold wf64 at h
  simp only [Lit.wf, Bool.and_eq_true, decide_eq_true_eq] at h
  exact h
end
end Go.Proofs.YtodkhoclbhdihaaGreatDoor

/-
  What every row of this seat's statements wants: the arguments read behind the call as they did before, for below the heap's old size nothing has turned.
-/
namespace Go.Proofs.YtodkhoclbhdihaaGreatDoor
open Go Go.ChangeShapes Go.WideShapes Go.ChangeAt Go.RowKit

theorem own : ownKnob Tryz.prog.godebug = none := by kernel_rfl
theorem laidOut : laidOutB Tryz.prog = true := by kernel_rfl

section
variable {H : Type} {enc : TypeId × Value → H} {P : Program}
theorem trodAll_below (hl : laidOutB P = true) {W W' : World} (hb : Below W.heap.size W W') : ∀ {ts : List TypeId} {vs : List Value} {ds : List (DataW H)} {ps : List MemPlace}, (ts.all fun t => P.readableRec t && decide (t < P.types.size)) = true →
    DataW.TrodAll enc P W 0 (fun _ => true) true ts vs ds ps → (∀ x ∈ ps, x.block < W.heap.size) → DataW.TrodAll enc P W' 0 (fun b => decide (b < W.heap.size)) true ts vs ds ps
  | [], _, _, _, _, h, _ => by
    obtain ⟨rfl, rfl, rfl⟩ := trodAll_nil h
    exact trodAll_mk0
  | t :: ts, _, _, _, ha, h, hlt => by
    obtain ⟨v, vs, d, ds, p, q, rfl, rfl, rfl, h0, h1⟩ := trodAll_cons h
    simp only [List.all_cons, Bool.and_eq_true, decide_eq_true_eq] at ha
    exact trodAll_cons_mk (Below.trod hl ha.1.1 ha.1.2 h0 hb fun x hx => hlt x (List.mem_append_left _ hx)) (trodAll_below hl hb ha.2 h1 fun x hx => hlt x (List.mem_append_right _ hx))
/-- The row's conclusion where only new blocks are written. -/
theorem post_below {f : Func} {s : ChangeSpec} {apart fresh handsOn : Bool} {W W' : World} {args : Array Value} {v : Value} {ds gs : List (DataW H)} {before : List MemPlace}
    (hl : laidOutB P = true) (ht : (f.params.toList.all fun t => P.readableRec t && decide (t < P.types.size)) = true)
    (hW : DataW.Whole enc P f.params.toList s.vars apart W args.toList ds gs before) (hv : s.vars = []) (hb : Fr None' W W')
    (hargs : (s.fn H (ds ++ gs)).args = ds) (hvars : (s.fn H (ds ++ gs)).vars = [])
    (hres : ∀ (b : Nat) (sp : Nat → Bool) (hd : Bool), DataW.TrodAll enc P W' b sp hd f.resultTypes.toList (v.resultList f.resultTypes.size) (s.fn H (ds ++ gs)).results []) :
    s.post enc P f apart fresh handsOn false W args v W' := by
  have hW' := hW
  obtain ⟨p, q, hA, hV, rfl, hfz, hnd⟩ := hW
  rw [hv] at hV
  obtain ⟨rfl, rfl⟩ := trodVars_none hV
  refine ⟨ds, [], p ++ [], [], p, [], hW', hres _ _ _, ?_, ?_, World.Since.frame (W := W) ⟨hb.os, hb.tape, hb.output, hb.size, fun k hk => hb.block k hk fun h => h⟩ _, fun h => by cases h⟩
  · rw [hargs]
    exact trodAll_below hl hb.below ht hA fun x hx => hW'.lt x (by simpa using hx)
  · rw [hvars, hv]
    rfl
end
end Go.Proofs.YtodkhoclbhdihaaGreatDoor

/-
  Contract of into, for every upper bound.
-/
namespace Go.Proofs.YtodkhoclbhdihaaGreatDoor
open Go.RowKit

theorem tmodG (n t : Int) (ht : 0 < t) : (-t < n.tmod t ∧ n.tmod t < t) ∧ (if n.tmod t < 0 then n.tmod t + t else n.tmod t) = n % t := by
  have hb : -t < n.tmod t ∧ n.tmod t < t := by
    rcases Int.le_total 0 n with h | h
    · rw [Int.tmod_eq_emod_of_nonneg (b := t) h]
      have h1 := Int.emod_nonneg n (show t ≠ 0 by omega)
      have h2 := Int.emod_lt_of_pos n ht
      omega
    · have e := Int.tmod_eq_emod_of_nonneg (b := t) (show 0 ≤ -n by omega)
      rw [Int.neg_tmod] at e
      have h1 := Int.emod_nonneg (-n) (show t ≠ 0 by omega)
      have h2 := Int.emod_lt_of_pos (-n) ht
      omega
  refine ⟨hb, ?_⟩
  have e : n % t = (n.tmod t) % t := by
    have h1 := Int.tmod_add_mul_tdiv n t
    conv => lhs; rw [← h1]
    rw [Int.add_mul_emod_self_left]
  rw [e]
  split
  · have e2 : n.tmod t % t = (n.tmod t + t) % t := by simp
    rw [e2, Int.emod_eq_of_lt (by omega) (by omega)]
  · rw [Int.emod_eq_of_lt (by omega) (by omega)]
theorem into_gen (n t : Int) (h1 : 1 ≤ t) (h2 : t ≤ 4611686018427387904) (w : World) : Calls Tryz.prog 12 #[.int .i64 n, .int .i64 t] w fun e w' => e = .returned (.int .i64 (n % t)) ∧ w = w' := by
  obtain ⟨hb, hq⟩ := tmodG n t (by omega)
  have e1 : IntKind.i64.wrap (n.tmod t) = n.tmod t := IntWalk.i64_in _ (by omega)
  have e2 : IntKind.i64.wrap (n.tmod t + t) = n.tmod t + t := IntWalk.i64_in _ (by omega)
  have q0 : (t == 0) = false := by simp; omega
  have q1 : ¬ t = 0 := by omega
  have HQ := Lib.hid hq
  clear hq
  by_cases ht : n.tmod t < 0
  · have d1 : decide (n.tmod t < 0) = true := by simpa using ht
    have HT := Lib.hid ht
    clear ht
    go_enter Tryz.func12, Tryz.ntmps12
    go_wp2
    go_ret
    exact ⟨retI (by have := HQ.out; rw [if_pos HT.out] at this; exact this), rfl⟩
  · have d1 : decide (n.tmod t < 0) = false := by simpa using ht
    have HT := Lib.hid (show ¬ n.tmod t < 0 from ht)
    clear ht
    go_enter Tryz.func12, Tryz.ntmps12
    go_wp2
    go_ret
    exact ⟨retI (by have := HQ.out; rw [if_neg (by have := HT.out; omega)] at this; exact this), rfl⟩
end Go.Proofs.YtodkhoclbhdihaaGreatDoor

/-
  Maps of which entries are added and overwritten, none removed: an association list, looked up, written, ranged over. No program in it.
-/
namespace Go.Proofs.YtodkhoclbhdihaaGreatDoor
open Go.ChangeMaps (setBlock)

section
variable {κ ν : Type}
section
variable [DecidableEq κ]
def get : List (κ × ν) → κ → Option ν
  | [], _ => none
  | (a, b) :: l, k => if a = k then some b else get l k
def put : List (κ × ν) → κ → ν → List (κ × ν)
  | [], k, v => [(k, v)]
  | (a, b) :: l, k, v => if a = k then (k, v) :: l else (a, b) :: put l k v
theorem get_put (l : List (κ × ν)) (k k' : κ) (v : ν) : get (put l k v) k' = if k = k' then some v else get l k' := by
  induction l with
  | nil => rfl
  | cons p l ih =>
    obtain ⟨a, b⟩ := p
    by_cases h : a = k
    · subst h
      by_cases h' : a = k' <;> simp [put, get, h']
    · by_cases h' : a = k'
      · have h2 : ¬ k = k' := fun e => h (h'.trans e.symm)
        subst h'
        simp [put, get, h, h2]
      · simp [put, get, h, h', ih]
/-- The place of a key, and what is there. -/
def ix : List (κ × ν) → κ → Nat → Option (Nat × ν)
  | [], _, _ => none
  | (a, b) :: l, k, i => if a = k then some (i, b) else ix l k (i + 1)
theorem ix_get (l : List (κ × ν)) (k : κ) (i : Nat) : (ix l k i).map (·.2) = get l k := by
  induction l generalizing i with
  | nil => rfl
  | cons p l ih =>
    obtain ⟨a, b⟩ := p
    unfold ix get
    by_cases h : a = k
    · rw [if_pos h, if_pos h]; rfl
    · rw [if_neg h, if_neg h, ih]

end
variable (kv : κ → Value) (vv : ν → Value)
def mkE (q : (κ × ν) × Nat) : MapEntry := { key := kv q.1.1, val := vv q.1.2, born := q.2 }
def ents (i : Nat) (l : List (κ × ν)) : List MapEntry := (l.zipIdx i).map (mkE kv vv)
/-- Block b is a map with just these entries. -/
def MapAt (w : World) (b : Nat) (l : List (κ × ν)) : Prop := w.heap[b]? = some (.map (ents kv vv 0 l).toArray l.length)
@[simp] theorem ents_nil (i : Nat) : ents kv vv i [] = [] := rfl
theorem ents_cons (i : Nat) (k : κ) (v : ν) (l : List (κ × ν)) : ents kv vv i ((k, v) :: l) = { key := kv k, val := vv v, born := i } :: ents kv vv (i + 1) l := by
  simp [ents, List.zipIdx_cons, mkE]
theorem ents_append (i : Nat) (l l' : List (κ × ν)) : ents kv vv i (l ++ l') = ents kv vv i l ++ ents kv vv (i + l.length) l' := by
  simp [ents, List.zipIdx_append]
theorem ents_put_none [DecidableEq κ] (l : List (κ × ν)) (k : κ) (v : ν) (i j : Nat) (h : ix l k j = none) : put l k v = l ++ [(k, v)] := by
  induction l generalizing i j with
  | nil => rfl
  | cons p l ih =>
    obtain ⟨a, b⟩ := p
    unfold ix at h
    by_cases ha : a = k
    · rw [if_pos ha] at h; cases h
    · rw [if_neg ha] at h
      unfold put
      rw [if_neg ha, ih (i + 1) (j + 1) h]
      rfl
theorem ents_put_some [DecidableEq κ] (l : List (κ × ν)) (k : κ) (v v0 : ν) (i j m : Nat) (h : ix l k j = some (m, v0)) : ∃ n, m = j + n ∧ n < l.length ∧ ((ents kv vv i l)[n]?).map (·.key) = some (kv k) ∧ (ents kv vv i l).modify n (fun e => { e with key := kv k, val := vv v }) = ents kv vv i (put l k v) ∧ (put l k v).length = l.length := by
  induction l generalizing i j with
  | nil => cases h
  | cons p l ih =>
    obtain ⟨a, b⟩ := p
    unfold ix at h
    by_cases ha : a = k
    · rw [if_pos ha] at h
      cases h
      refine ⟨0, rfl, by simp, ?_, ?_, ?_⟩
      · rw [ents_cons, ha]; rfl
      · unfold put
        rw [if_pos ha, ents_cons, ents_cons]
        rfl
      · unfold put
        rw [if_pos ha]
        simp
    · rw [if_neg ha] at h
      obtain ⟨n, hn, hlt, hk, hm, hl⟩ := ih (i + 1) (j + 1) h
      refine ⟨n + 1, by omega, by simp; omega, ?_, ?_, ?_⟩
      · rw [ents_cons, List.getElem?_cons_succ]; exact hk
      · unfold put
        rw [if_neg ha, ents_cons, ents_cons, List.modify_succ_cons, hm]
      · unfold put
        rw [if_neg ha]
        simp [hl]

/-- What lookups and stores ask of a key's type. -/
structure KeyOk [DecidableEq κ] (P : Program) (kt : TypeId) (kv : κ → Value) : Prop where
  check : ∀ (w : World) (em : Bool) (k : κ), (Instr.checkKey em 10000 kt (kv k)).run P w = .ok () w
  find : ∀ {ν : Type} (w : World) (vv : ν → Value) (l : List (κ × ν)) (k : κ), (Instr.findKey kt (kv k) (ents kv vv 0 l)).run P w = .ok ((ix l k 0).map fun p => (p.1, vv p.2)) w
  stays : ∀ (w : World) (k : κ), (Instr.keyThatStays (kv k) (kv k)).run P w = .ok (kv k) w

variable {kv vv} {P : Program}
theorem findNow_ents [DecidableEq κ] {d : TypeDesc} (hd : ∀ a b, Instr.sameNow d (kv a) (kv b) = some (decide (a = b))) (k : κ) (l : List (κ × ν)) (i j : Nat) :
    Instr.findNow d (kv k) (ents kv vv i l) j = some ((ix l k j).map fun p => (p.1, vv p.2)) := by
  induction l generalizing i j with
  | nil => rfl
  | cons p l ih =>
    obtain ⟨a, b⟩ := p
    rw [ents_cons]
    unfold ix Instr.findNow
    rw [hd]
    by_cases h : a = k
    · rw [if_pos h, decide_eq_true h.symm]; rfl
    · rw [if_neg h, decide_eq_false (fun e => h e.symm), ih]
theorem findAsking_ents [DecidableEq κ] {kt : TypeId} (heq : ∀ (w : World) (a b : κ), (Op.equal kt (kv a) (kv b)).run P w = .ok (decide (a = b)) w) (w : World) (k : κ) (l : List (κ × ν)) (i j : Nat) :
    (Instr.findAsking kt (kv k) (ents kv vv i l) j).run P w = .ok ((ix l k j).map fun p => (p.1, vv p.2)) w := by
  induction l generalizing i j with
  | nil => rfl
  | cons p l ih =>
    obtain ⟨a, b⟩ := p
    rw [ents_cons]
    unfold ix Instr.findAsking
    simp only [Sem.run_bind, heq, Result.andThen_ok]
    by_cases h : a = k
    · rw [if_pos h, decide_eq_true h.symm]; rfl
    · rw [if_neg h, decide_eq_false (fun e => h e.symm)]
      simp only [Bool.false_eq_true, if_false]
      exact ih _ _
theorem key_now [DecidableEq κ] {kt : TypeId} {d : TypeDesc} (hu : P.underlying kt = some d) (hd : ∀ a b, Instr.sameNow d (kv a) (kv b) = some (decide (a = b))) (hk : ∀ k, MapKept.IsKey d (kv k)) : KeyOk P kt kv :=
  ⟨fun _ em k => MapKept.run_checkKey hu (hk k) em 9999, fun _ _ l k => MapKept.run_findKey hu (findNow_ents hd k l 0 0), fun _ k => MapKept.run_keyThatStays (hk k)⟩
theorem key_asking [DecidableEq κ] {kt : TypeId} {d : TypeDesc} (hu : P.underlying kt = some d) (hd : ∀ a b, Instr.sameNow d (kv a) (kv b) = none) (heq : ∀ (w : World) (a b : κ), (Op.equal kt (kv a) (kv b)).run P w = .ok (decide (a = b)) w)
    (hc : ∀ (w : World) (em : Bool) (k : κ), (Instr.checkKey em 10000 kt (kv k)).run P w = .ok () w) (hs : ∀ k, Instr.sameBits 10000 (kv k) (kv k) = true) : KeyOk P kt kv := by
  refine ⟨hc, fun w vv l k => ?_, fun w k => by simp [Instr.keyThatStays, hs k]⟩
  cases l with
  | nil => simp [Instr.findKey, run_underlying hu, Instr.findNow, ix]
  | cons p l =>
    obtain ⟨a, b⟩ := p
    have := findAsking_ents (vv := vv) heq w k ((a, b) :: l) 0 0
    rw [ents_cons] at this ⊢
    simp only [Instr.findKey, Sem.run_bind, run_underlying hu, Result.andThen_ok, Instr.findNow, hd]
    exact this

variable {w : World} {b : Nat} {l : List (κ × ν)} {mt kt et : TypeId} {z : Value}
theorem MapAt.lt (h : MapAt kv vv w b l) : b < w.heap.size := lt_of_heap h
theorem MapAt.fr {w' : World} {S : Nat → Prop} (h : MapAt kv vv w b l) (hf : Fr S w w') (hs : ¬ S b) : MapAt kv vv w' b l := (hf.block b h.lt hs).trans h
theorem MapAt.look2 [DecidableEq κ] (h : MapAt kv vv w b l) (hm : P.underlying mt = some (.map kt et)) (K : KeyOk P kt kv) (hz : ∀ w, (zeroValue et).run P w = .ok z w) (k : κ) :
    (Instr.lookup mt (.map (some b)) (kv k) true).run P w = .ok (.tuple #[((get l k).map vv).getD z, .bool (get l k).isSome]) w := by
  rw [← ix_get l k 0]
  have hf := K.find w vv l k
  have hg := MapKept.run_getObj_map (P := P) h
  simp only [Instr.lookup, Sem.run_bind, run_underlying hm, Result.andThen_ok, hg, Sem.run_pure, K.check]
  simp only [hf, Result.andThen_ok]
  cases ix l k 0 with
  | none => simp [hz]
  | some p => simp
theorem MapAt.look1 [DecidableEq κ] (h : MapAt kv vv w b l) (hm : P.underlying mt = some (.map kt et)) (K : KeyOk P kt kv) (hz : ∀ w, (zeroValue et).run P w = .ok z w) (k : κ) :
    (Instr.lookup mt (.map (some b)) (kv k) false).run P w = .ok (((get l k).map vv).getD z) w := by
  rw [← ix_get l k 0]
  have hf := K.find w vv l k
  have hg := MapKept.run_getObj_map (P := P) h
  simp only [Instr.lookup, Sem.run_bind, run_underlying hm, Result.andThen_ok, hg, Sem.run_pure, K.check]
  simp only [hf, Result.andThen_ok]
  cases ix l k 0 with
  | none => simp [hz]
  | some p => simp
/-- The world with that map's block written. -/
def mapSet (kv : κ → Value) (vv : ν → Value) (w : World) (b : Nat) (l : List (κ × ν)) : World := setBlock w b (.map (ents kv vv 0 l).toArray l.length)
theorem MapAt.update [DecidableEq κ] (h : MapAt kv vv w b l) (hm : P.underlying mt = some (.map kt et)) (K : KeyOk P kt kv) (k : κ) (v : ν) :
    (Instr.mapUpdate mt (.map (some b)) (kv k) (vv v)).run P w = .ok () (mapSet kv vv w b (put l k v)) := by
  have hf := K.find w vv l k
  have hg := MapKept.run_getObj_map (P := P) h
  simp only [Instr.mapUpdate, Sem.run_bind, run_underlying hm, Result.andThen_ok, hg, K.check]
  simp only [hf, Result.andThen_ok]
  unfold mapSet setBlock
  cases hx : ix l k 0 with
  | none =>
    rw [ents_put_none l k v 0 0 hx, ents_append]
    simp [MapKept.run_setObj_map _ h, ents, mkE]
  | some p =>
    obtain ⟨m, v0⟩ := p
    obtain ⟨n, rfl, hlt, hk, he, hl⟩ := ents_put_some kv vv l k v v0 0 0 m hx
    rw [Nat.zero_add] at *
    have hk' : (((ents kv vv 0 l).toArray[n]?).map (·.key)).getD (kv k) = kv k := by
      rw [List.getElem?_toArray, hk]; rfl
    have hmod : (ents kv vv 0 l).toArray.modify n (fun e => { e with key := kv k, val := vv v }) = (ents kv vv 0 (put l k v)).toArray := by
      apply Array.ext'
      rw [Array.toList_modify, he]
    simp only [Option.map_some, hk', K.stays, Result.andThen_ok, MapKept.run_setObj_map _ h, hmod, hl, Sem.run_bind]
theorem MapAt.set (h : MapAt kv vv w b l) (l' : List (κ × ν)) : MapAt kv vv (mapSet kv vv w b l') b l' := (MapKept.heap_set h).1
theorem Fr.mapSet {w0 : World} {S : Nat → Prop} (h : Fr S w0 w) {b : Nat} (hb : w0.heap.size ≤ b ∨ S b) (l' : List (κ × ν)) : Fr S w0 (mapSet kv vv w b l') :=
  ⟨h.os, h.tape, h.output, by simpa [Go.Proofs.YtodkhoclbhdihaaGreatDoor.mapSet, setBlock] using h.size, fun k hk hs => by
    have hne : k ≠ b := fun e => by subst e; rcases hb with hb | hb; omega; exact hs hb
    have : (Go.Proofs.YtodkhoclbhdihaaGreatDoor.mapSet kv vv w b l').heap[k]? = w.heap[k]? := by
      unfold Go.Proofs.YtodkhoclbhdihaaGreatDoor.mapSet setBlock
      simp [Ne.symm hne]
    exact this.trans (h.block k hk hs)⟩
theorem MapAt.setFar {κ' ν' : Type} {kv' : κ' → Value} {vv' : ν' → Value} (h : MapAt kv vv w b l) {b' : Nat} (hb : b ≠ b') (l' : List (κ' × ν')) : MapAt kv vv (mapSet kv' vv' w b' l') b l := by
  have : (mapSet kv' vv' w b' l').heap[b]? = w.heap[b]? := by
    unfold mapSet setBlock
    simp [Ne.symm hb]
  exact this.trans h
theorem Blk.mapSet (b' : Nat) {t : TypeId} {cs : Array Value} {g : Nat} (h : Blk w g t cs) (hb : g ≠ b') (l' : List (κ × ν)) : Blk (mapSet kv vv w b' l') g t cs := by
  have : (Go.Proofs.YtodkhoclbhdihaaGreatDoor.mapSet kv vv w b' l').heap[g]? = w.heap[g]? := by
    unfold Go.Proofs.YtodkhoclbhdihaaGreatDoor.mapSet setBlock
    simp [Ne.symm hb]
  exact this.trans h
theorem MapAt.new (w : World) : MapAt kv vv (w.alloc (.map #[] 0)) w.heap.size ([] : List (κ × ν)) := (MapKept.heap_alloc w _).1

/-! ### ranging -/
/-- An iterator in block r over the map in block b: of its entries these are still to come. -/
def Ranging (kv : κ → Value) (vv : ν → Value) (w : World) (r b : Nat) (l rest : List (κ × ν)) : Prop :=
  MapAt kv vv w b l ∧ ∃ seen : Array Nat, w.heap[r]? = some (.mapIter (some b) l.length seen l.length) ∧ rest = ((l.zipIdx 0).filter fun q => !seen.contains q.2).map (·.1)
theorem born_lt (l : List (κ × ν)) : ∀ x ∈ (ents kv vv 0 l).toArray.toList, x.born < l.length := by
  intro x hx
  simp only [ents, List.mem_map] at hx
  obtain ⟨q, hq, rfl⟩ := hx
  have := List.mem_zipIdx hq
  simp only [mkE]
  omega
theorem Ranging.start (h : MapAt kv vv w b l) (hm : P.underlying mt = some (.map kt et)) :
    (Instr.range mt (.map (some b))).run P w = .ok (.pointer (some ⟨w.heap.size, 0, none⟩)) (w.alloc (.mapIter (some b) l.length #[] l.length)) ∧ Ranging kv vv (w.alloc (.mapIter (some b) l.length #[] l.length)) w.heap.size b l l := by
  refine ⟨run_range_map w mt kt et b _ _ hm h, h.fr ((Fr.refl None' w).alloc _) (fun h => h), #[], (MapKept.heap_alloc w _).1, ?_⟩
  have : (l.zipIdx 0).filter (fun q => !(#[] : Array Nat).contains q.2) = l.zipIdx 0 := List.filter_eq_self.2 (by simp)
  rw [this, List.zipIdx_map_fst]
theorem perm_out {α : Type} (L : List (α × Nat)) (p : α × Nat) (hp : p ∈ L) (hn : (L.map (·.2)).Nodup) : L.Perm (p :: L.filter fun q => !(q.2 == p.2)) := by
  induction L with
  | nil => cases hp
  | cons q L ih =>
    have hn' := List.nodup_cons.1 hn
    rcases List.mem_cons.1 hp with rfl | hp'
    · have : (p :: L).filter (fun q => !(q.2 == p.2)) = L := by
        rw [List.filter_cons_of_neg (by simp)]
        refine List.filter_eq_self.2 fun q hq => ?_
        have : q.2 ≠ p.2 := fun e => hn'.1 (List.mem_map.2 ⟨q, hq, e⟩)
        simp [this]
      rw [this]
    · have hne : q.2 ≠ p.2 := fun e => hn'.1 (List.mem_map.2 ⟨p, hp', e.symm⟩)
      rw [List.filter_cons_of_pos (by simp [hne])]
      exact ((ih hp' hn'.2).cons q).trans (List.Perm.swap p q _)
theorem Ranging.next {r : Nat} {rest : List (κ × ν)} (h : Ranging kv vv w r b l rest) (ty : TypeId) (hrb : r ≠ b) :
    (rest = [] ∧ (Instr.next (.pointer (some ⟨r, 0, none⟩)) false ty).run P w = .ok (.tuple #[.bool false]) w) ∨
    ∃ p rest' w', rest.Perm (p :: rest') ∧ (Instr.next (.pointer (some ⟨r, 0, none⟩)) false ty).run P w = .ok (.tuple #[.bool true, kv p.1, vv p.2]) w' ∧ Ranging kv vv w' r b l rest' ∧ Fr (Only r) w w' ∧
      w'.heap.size = w.heap.size ∧ (Instr.entry (.pointer (some ⟨r, 0, none⟩))).run P w' = .ok (.tuple #[kv p.1, vv p.2]) w' := by
  obtain ⟨hm, seen, hr, rfl⟩ := h
  have hnd : ((ents kv vv 0 l).map (·.born)).Nodup := by
    have : (ents kv vv 0 l).map (·.born) = List.range' 0 l.length := by
      rw [← List.zipIdx_map_snd 0 l]
      simp [ents, mkE, Function.comp_def]
    rw [this]
    exact List.nodup_range'
  have hlf : (leftOf (ents kv vv 0 l).toArray seen).toList = ((l.zipIdx 0).filter fun q => !seen.contains q.2).map (mkE kv vv) := by
    unfold leftOf
    rw [Array.toList_filter]
    simp only [ents]
    rw [List.filter_map]
    rfl
  have hnz : ((l.zipIdx 0).map (·.2)).Nodup := by rw [List.zipIdx_map_snd]; exact List.nodup_range'
  rcases run_next_at (P := P) w ty r b l.length l.length seen (ents kv vv 0 l).toArray l.length hr hm (born_lt l) (Nat.le_refl _) with ⟨h0, hrun⟩ | ⟨e, he, w1, hal, hrun⟩
  · left
    refine ⟨?_, hrun⟩
    have := congrArg List.length hlf
    rw [Array.length_toList, h0, List.length_map] at this
    rw [List.eq_nil_of_length_eq_zero this.symm]
    rfl
  · right
    rw [hlf] at he
    obtain ⟨q, hq, rfl⟩ := List.mem_map.1 he
    have hr1 : w1.heap[r]? = some (.mapIter (some b) l.length seen l.length) := by rcases hal with rfl | rfl <;> exact hr
    have hm1 : MapAt kv vv w1 b l := by rcases hal with rfl | rfl <;> exact hm
    have hset := MapKept.heap_set (o' := .mapIter (some b) l.length (seen.push q.2) l.length) hr1
    have hm2 : MapAt kv vv (setBlock w1 r (.mapIter (some b) l.length (seen.push q.2) l.length)) b l := (hset.2 b (Ne.symm hrb)).trans hm1
    refine ⟨q.1, _, _, ?_, hrun, ⟨hm2, seen.push q.2, hset.1, rfl⟩, ?_, ?_, ?_⟩
    · have hp := perm_out _ q hq (hnz.sublist (List.filter_sublist.map _))
      rw [List.filter_filter] at hp
      have e2 : (fun a : (κ × ν) × Nat => !(a.2 == q.2) && !seen.contains a.2) = fun a => !(seen.push q.2).contains a.2 := by
        funext a
        rw [contains_push]
        cases seen.contains a.2 <;> cases (a.2 == q.2) <;> rfl
      rw [e2] at hp
      exact hp.map (·.1)
    · have hf : Fr (Only r) w w1 := by rcases hal with rfl | rfl; exact Fr.refl _ _; exact (Fr.refl _ _).drew
      refine hf.trans' ⟨rfl, rfl, rfl, by simp [setBlock], fun i hi hne => hset.2 i hne⟩
    · rcases hal with rfl | rfl <;> simp [setBlock]
    · have := run_entry_at (P := P) (setBlock w1 r (.mapIter (some b) l.length (seen.push q.2) l.length)) r b l.length seen (ents kv vv 0 l).toArray l.length (mkE kv vv q) hset.1 hm2 (by
        simp only [ents]
        exact List.mem_map.2 ⟨q, (List.mem_filter.1 hq).1, rfl⟩) hnd
      exact this
theorem Ranging.fr {w' : World} {S : Nat → Prop} {r : Nat} {rest : List (κ × ν)} (h : Ranging kv vv w r b l rest) (hf : Fr S w w') (hr : ¬ S r) (hb : ¬ S b) : Ranging kv vv w' r b l rest := by
  obtain ⟨hm, seen, hs, e⟩ := h
  exact ⟨hm.fr hf hb, seen, (hf.block r (lt_of_heap hs) hr).trans hs, e⟩
end
end Go.Proofs.YtodkhoclbhdihaaGreatDoor

/-
  What packages doc and tap compute, as plain functions. No memory and no program in it.
-/
namespace Go.Proofs.YtodkhoclbhdihaaGreatDoor

structure GElem where
  ch : UInt8
  client : Int
  seq : Int
  deriving DecidableEq
structure GEdit where
  tag : Int
  op : GOp
  deriving DecidableEq

def zeroOp : GOp := ⟨0, 0, 0, 0, 0⟩
def posF (o : GOp) : Int := if o.pos < 0 ∨ (if o.kind = 0 then 0 else 4095) < o.pos then 43 else 0
def validF (o : GOp) : Int :=
  if o.kind < 0 ∨ 2 < o.kind then 40
  else if o.client < 1 ∨ 64 < o.client ∨ o.seq < 1 ∨ 64 < o.seq then 41
  else if o.kind = 1 then (if (o.ch.toNat : Int) < 32 ∨ 126 < (o.ch.toNat : Int) then 42 else posF o)
  else if (o.ch.toNat : Int) ≠ 0 then 42 else posF o
def fitsF (n : Int) (o : GOp) : Int :=
  if validF o ≠ 0 then validF o
  else if n < 0 ∨ 4096 < n ∨ (o.kind = 1 ∧ n = 4096) then 44
  else if (o.kind = 1 ∧ n < o.pos) ∨ (o.kind = 2 ∧ n ≤ o.pos) then 43 else 0
def elemOf (o : GOp) : GElem := ⟨o.ch, o.client, o.seq⟩
def doneF (d : List GElem) (o : GOp) : List GElem :=
  if o.kind = 1 then d.take o.pos.toNat ++ [elemOf o] ++ d.drop o.pos.toNat
  else if o.kind = 2 then d.take o.pos.toNat ++ d.drop (o.pos.toNat + 1) else d
def applyF (d : List GElem) (o : GOp) : Except Int (List GElem) := if fitsF d.length o = 0 then .ok (doneF d o) else .error (fitsF d.length o)

/-- What a tap knows. -/
structure GTap where
  clients : Int
  epoch : Int
  records : List (Int × GOp)
  revs : List ((Int × Int) × Int)
  edits : List ((Int × Int) × GEdit)

def nameOf (o : GOp) : Int × Int := (o.client, o.seq)
def togetherB (r e : GOp) : Bool := (decide (r.kind = e.kind) && decide (r.ch = e.ch)) || (decide (r.kind = 0) && decide (e.kind = 2))
def fitsRec (T : GTap) (rev : Int) (o : GOp) : Bool :=
  (match get T.records rev with | some o' => decide (o' = o) | none => true) && (match get T.revs (nameOf o) with | some r => decide (r = rev) | none => true) &&
  (match get T.edits (nameOf o) with | some e => togetherB o e.op | none => true)
def fitsEd (T : GTap) (e : GEdit) : Bool :=
  (match get T.edits (nameOf e.op) with | some e' => decide (e' = e) | none => true) && (match get T.revs (nameOf e.op) with | some r => togetherB ((get T.records r).getD zeroOp) e.op | none => true)
/-- Does the message go that way? -/
def rightWay (m : GMsg) (fr to_ : Int) : Bool :=
  if m.kind = 4 ∨ m.kind = 6 ∨ m.kind = 5 then decide (fr = 0) && decide (to_ = m.client) else decide (fr = m.client) && decide (to_ = 0)
def maxI (a b : Int) : Int := if a < b then b else a
/-- What seeing a datagram answers (number and place; (0, 0): nil), and what is known then. -/
def seeF (T : GTap) (fr to_ : Int) (xs : List UInt8) : (Int × Int) × GTap :=
  if (decide (fr = 0) == decide (to_ = 0)) ∨ (fr < 0 ∨ to_ < 0) ∨ (T.clients < fr ∨ T.clients < to_) then ((71, 0), T)
  else match decF xs with
    | .error x => (x, T)
    | .ok m =>
      if rightWay m fr to_ = false then ((281, 0), T)
      else if m.kind = 5 then
        if fitsRec T m.rev m.op then ((0, 0), { T with epoch := maxI T.epoch m.epoch, records := put T.records m.rev m.op, revs := put T.revs (nameOf m.op) m.rev }) else ((280, m.rev), T)
      else if m.kind = 2 then
        if fitsEd T ⟨m.tag, m.op⟩ then ((0, 0), { T with epoch := maxI T.epoch m.epoch, edits := put T.edits (nameOf m.op) ⟨m.tag, m.op⟩ }) else ((280, m.op.seq), T)
      else ((0, 0), { T with epoch := maxI T.epoch m.epoch })

/-- The records from rev on, as far as each can stand. -/
def standGo (recs : List (Int × GOp)) : Nat → Int → List (Int × Int) → List GOp → List GElem → List GOp × List GElem
  | 0, _, _, l, text => (l, text)
  | f + 1, rev, seqs, l, text =>
    match get recs rev with
    | none => (l, text)
    | some o =>
      if o.seq = (get seqs o.client).getD 0 + 1 then
        match applyF text o with
        | .error _ => (l, text)
        | .ok next => standGo recs f (rev + 1) (put seqs o.client ((get seqs o.client).getD 0 + 1)) (l ++ [o]) next
      else (l, text)
def standF (recs : List (Int × GOp)) : List GOp × List GElem := standGo recs (recs.length + 1) 1 [] [] []

theorem get_mem {κ ν : Type} [DecidableEq κ] (l : List (κ × ν)) (k : κ) (v : ν) (h : get l k = some v) : (k, v) ∈ l := by
  induction l with
  | nil => cases h
  | cons p l ih =>
    obtain ⟨a, b⟩ := p
    unfold get at h
    by_cases ha : a = k
    · rw [if_pos ha] at h
      cases h
      subst ha
      exact List.mem_cons_self ..
    · rw [if_neg ha] at h
      exact List.mem_cons_of_mem _ (ih h)
theorem pigeon (n : Nat) (l : List Int) (h : ∀ i : Nat, 1 ≤ i → i ≤ n → (i : Int) ∈ l) : n ≤ l.length := by
  induction n generalizing l with
  | zero => omega
  | succ n ih =>
    have hm := h (n + 1) (by omega) (Nat.le_refl _)
    have := ih (l.erase ((n + 1 : Nat) : Int)) fun i h1 h2 => (List.mem_erase_of_ne (by omega)).2 (h i h1 (by omega))
    rw [List.length_erase_of_mem hm] at this
    have := List.length_pos_of_mem hm
    omega
/-- As many known numbers from 1 on as there are entries at most. -/
theorem known_le (recs : List (Int × GOp)) (n : Nat) (h : ∀ i : Nat, 1 ≤ i → i ≤ n → (get recs (i : Int)).isSome = true) : n ≤ recs.length := by
  have := pigeon n (recs.map (·.1)) fun i h1 h2 => by
    obtain ⟨v, hv⟩ := Option.isSome_iff_exists.1 (h i h1 h2)
    exact List.mem_map.2 ⟨_, get_mem _ _ _ hv, rfl⟩
  rwa [List.length_map] at this
end Go.Proofs.YtodkhoclbhdihaaGreatDoor

/-
  The case of TapTwo, TapFlips and TapFresh as plain data. No memory and no program in it.
-/
namespace Go.Proofs.YtodkhoclbhdihaaGreatDoor

structure GCase where
  out : Bool
  gone : Bool
  tag : Int
  pos : Int
  ch : UInt8
  seq : Int
  rev : Int
  way : Int
def cSeq (c : GCase) : Int := 2 + c.seq % 63
def cRev (c : GCase) : Int := 2 + c.rev % 4095
def cCh (c : GCase) : UInt8 := lo8 (32 + c.ch.toNat % 95)
def cOp (c : GCase) : GOp := ⟨if c.out then 2 else 1, c.pos % 4000, if c.out then 0 else cCh c, 1, cSeq c⟩
def cEd (c : GCase) : GEdit := ⟨c.tag % 4097, cOp c⟩
def cRec (c : GCase) : GOp := if c.out && c.gone then ⟨0, 0, 0, 1, cSeq c⟩ else ⟨if c.out then 2 else 1, c.pos % 90, if c.out then 0 else cCh c, 1, cSeq c⟩
/-- The record in another way. -/
def cBad (c : GCase) : GOp :=
  if c.way % 3 = 0 then ⟨1, (cRec c).pos, if (cRec c).ch = 33 then 34 else 33, 1, cSeq c⟩
  else if c.way % 3 = 1 then (if c.out then ⟨1, (cRec c).pos, 113, 1, cSeq c⟩ else ⟨2, (cRec c).pos, 0, 1, cSeq c⟩)
  else (if c.out then ⟨1, 0, 119, 1, cSeq c⟩ else ⟨0, 0, 0, 1, cSeq c⟩)
def cOther (c : GCase) : Int := if cRev c = 4096 then 4095 else cRev c + 1
def cLate (c : GCase) : GEdit := ⟨(c.tag % 4097 + 1) % 4097, cOp c⟩
def cMoved (c : GCase) : GEdit := ⟨c.tag % 4097, ⟨(cOp c).kind, c.pos % 4000 + 1, (cOp c).ch, 1, cSeq c⟩⟩
def cPlace (c : GCase) : GOp := ⟨(cRec c).kind, (cRec c).pos + 1, (cRec c).ch, 1, cSeq c⟩
end Go.Proofs.YtodkhoclbhdihaaGreatDoor

/-
  Drawn regions with growing memory whose last operations also write into blocks that S names. No program in it.
-/
namespace Go.Proofs.YtodkhoclbhdihaaGreatDoor

/-- A world that W may have grown to, the blocks of S perhaps written. -/
structure LaterM (S : Nat → Prop) (W : World) where
  w : World
  fr : Fr S W w
instance laterM_nonempty (S : Nat → Prop) (W : World) : Nonempty (LaterM S W) := ⟨⟨W, Fr.refl _ _⟩⟩
def MC (S : Nat → Prop) (W : World) : World → Prop := fun w' => ∃ x : LaterM S W, w' = x.w
theorem MC.mk {S : Nat → Prop} {W w' : World} (h : Fr S W w') : MC S W w' := ⟨⟨w', h⟩, rfl⟩
theorem MC.fr {S : Nat → Prop} {W w' : World} (h : MC S W w') : Fr S W w' := by
  obtain ⟨x, rfl⟩ := h
  exact x.fr
section
variable {P : Program} {ops : Array Oper} {Q : Exit → Act → World → Prop} {W : World} {S : Nat → Prop}
abbrev wpM (P : Program) (ops : Array Oper) (Q : Exit → Act → World → Prop) (S : Nat → Prop) (W : World) : Nat → Array Bool → Act → World → Prop := wpS P .any ops Q (MC S W) (Fr None')
theorem wp_region_M (S : Nat → Prop) {id : Nat} {a : Act} {w : World} {l : List Oper} (hm : P.follows .mixedOrders = true)
    (h : wpM P l.toArray Q S w l.toArray.size (Array.replicate l.toArray.size false) a w.drew) : (Code.region id l.toArray true).wp P Q a w :=
  wp_region_S (MC S w) (Fr None') (Fr.refl _) hm (MC.mk (Fr.refl _ _).drew) h
theorem wpM_heads {l : List Oper} (n k f : Nat) {listed : Array Bool} {a : Act} {w : World} (hsel : Region.noSelect l.toArray = true) (hB : headsB .any l.toArray k n listed = true)
    (h : wpQuiet P l.toArray (fun w' => ∃ x : LaterM S W, w' = x.w) (fun a' => wpM P l.toArray Q S W f (listedAfter k n listed) a' w) ((l.drop k).take n) a)
    (hn : ((l.drop k).take n).all plainB = true) : wpM P l.toArray Q S W (f + n) listed a w :=
  wpS_heads (Fr.refl _) Fr.tr hsel n k f listed a w hB h fun o ho _ w w' f args => plain_run (List.all_eq_true.1 hn o ho) _ w w' f args
theorem wpM_call (hsel : Region.noSelect ops = true) (i d : Nat) {o : Oper} (ho : ops[i]? = some o) (hd : o.dst = some d) {f : Nat} {listed : Array Bool} {tl : List Value} {ds : List Deferred} {w : World}
    (hB : headsB .any ops i 1 listed = true) (hg : o.guard = none) (fn : FuncId) (args : Array Value) (v : Value)
    (hx : ∀ w, (execOp (Act.eval ⟨tl.toArray, ds⟩) o).run P w = .ok (.enter fn args) w)
    (hc : ∀ w', Fr S W w' → Calls P fn args w' fun e w2 => e = .returned v ∧ Fr None' w' w2)
    (h : wpM P ops Q S W f (listed.setIfInBounds i true) ⟨(tl.set d v).toArray, ds⟩ w) : wpM P ops Q S W (f + 1) listed ⟨tl.toArray, ds⟩ w :=
  wpS_call (Fr.refl _) Fr.tr hsel i ho hB hg fn args v hx (fun w' hw' => (hc w' hw'.fr).mono fun _ _ ⟨h1, h2⟩ => ⟨h1, MC.mk (hw'.fr.trans' h2.none), h2⟩) (by
    rw [hd]
    simpa [Act.put] using h)
theorem wpM_step (k : Nat) {o : Oper} (ho : ops[k]? = some o) {f : Nat} {listed : Array Bool} {a : Act} {w : World} (hrd : Region.ready .any ops listed = [k])
    (h : ∀ w', Fr S W w' → Fr None' w w' → wpList P ops (Then fun a2 w2 => MC S W w2 ∧ wpM P ops Q S W f (listed.setIfInBounds k true) a2 w2) [o] a w') : wpM P ops Q S W (f + 1) listed a w :=
  wpS_step k ho hrd fun w' h1 h2 => h w' h1.fr h2
theorem wpM_done {f : Nat} {listed : Array Bool} {a : Act} {w : World} (hrd : Region.ready .any ops listed = []) (h : ∀ w', Fr S W w' → Fr None' w w' → Q .normal a w') : wpM P ops Q S W f listed a w :=
  wpS_done hrd fun w' h1 h2 => h w' h1.fr h2
end
end Go.Proofs.YtodkhoclbhdihaaGreatDoor
