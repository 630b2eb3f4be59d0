/-
  A message and a way as arguments: what reading them says of their cells.
-/
import Derived.Test.YtodkhoclbhdihaaDoorWire
import Derived.ProofKit
import Derived.OpenShut
import Derived.ChangeArms
import Derived.ChangeSame
namespace Go.Proofs.YtodkhoclbhdihaaDoor
open Go.ChangeShapes Go.WideShapes Go.ChangeAt Go.RowKit

section
variable {H : Type} {enc : TypeId × Value → H} {W : World} {base : Nat} {sp : Nat → Bool} {held : Bool}
theorem cell_of {P : Program} {t : TypeId} {k : IntKind} {n : Nat} {cs : List Value} {i : Nat} {x : Option (DataW H × List MemPlace)} (ht : P.underlying t = some (.int k)) (hx : x.isSome = true) (h : DataW.trod enc P W base sp held n t ((cs.drop i).take 1) = x) :
    ∃ z, (cs.drop i).take 1 = [.int k z] ∧ x = some (.lit (.int k z), []) ∧ (Lit.int k z).wf = true := by
  obtain ⟨y, hy⟩ := Option.isSome_iff_exists.1 hx
  rw [hy] at h
  obtain ⟨z, h1, h2, h3⟩ := DataW.trod_int ht h
  exact ⟨z, h1, by rw [hy, h2], h3⟩
theorem drop_take {cs : List Value} {i : Nat} {v : Value} (h : (cs.drop i).take 1 = [v]) : cs[i]? = some v := by
  have := congrArg (·[0]?) h
  simpa [List.getElem?_take, List.getElem?_drop] using this

def i64D (z : Int) : DataW H := .lit (.int .i64 z)
def opD (o : GOp) : DataW H := .agg [i64D o.kind, i64D o.pos, .lit (.int .u8 (o.ch.toNat : Int)), i64D o.client, i64D o.seq]
def msgD (m : GMsg) : DataW H := .agg [i64D m.kind, i64D m.epoch, i64D m.client, i64D m.have_, i64D m.first, i64D m.num, i64D m.ack, i64D m.rev, i64D m.tag, opD m.op]
def wf64 (z : Int) : Prop := (Lit.int .i64 z).wf = true
structure OpOk (o : GOp) : Prop where
  k : wf64 o.kind
  p : wf64 o.pos
  c : wf64 o.client
  s : wf64 o.seq
structure MsgOk (m : GMsg) : Prop where
  a : wf64 m.kind ∧ wf64 m.epoch ∧ wf64 m.client ∧ wf64 m.have_ ∧ wf64 m.first ∧ wf64 m.num ∧ wf64 m.ack ∧ wf64 m.rev ∧ wf64 m.tag
  o : OpOk m.op
theorem u8_wf (u : UInt8) : (Lit.int .u8 (u.toNat : Int)).wf = true := by
  have := u.toNat_lt
  simp only [Lit.wf, Bool.and_eq_true, decide_eq_true_eq]
  exact ⟨by show (0 : Int) ≤ _; omega, by show _ ≤ (255 : Int); omega⟩
theorem shut_op (o : GOp) (h : OpOk o) (n : Nat) : DataW.trod enc Tryd.prog W base sp held (n + 2) 23 (opCells o) = some (opD o, []) := by
  obtain ⟨h1, h2, h3, h4⟩ := h
  unfold wf64 at *
  have h5 := u8_wf o.ch
  have := trod_struct_mk (enc := enc) (w := W) (base := base) (spare := sp) (held := held) (n := n + 1) (cs := opCells o) (xs := [(i64D o.kind, []), (i64D o.pos, []), (.lit (.int .u8 (o.ch.toNat : Int)), []), (i64D o.client, []), (i64D o.seq, [])]) Tryd.underlying23 (by kernel_rfl) (by
    simp [DataW.trod, opCells, i64D, Tryd.underlying3, Tryd.underlying5, h1, h2, h3, h4, h5, show Tryd.prog.cellsOf 3 = 1 by kernel_rfl, show Tryd.prog.cellsOf 5 = 1 by kernel_rfl])
  simpa [opD] using this
theorem shut_msg (m : GMsg) (h : MsgOk m) : DataW.Trod enc Tryd.prog W base sp held 25 (msgV m) (msgD m) [] := by
  obtain ⟨⟨h1, h2, h3, h4, h5, h6, h7, h8, h9⟩, ho⟩ := h
  unfold wf64 at *
  refine ⟨4, ?_⟩
  have hop := shut_op (enc := enc) (W := W) (base := base) (sp := sp) (held := held) m.op ho 1
  have := trod_struct_mk (enc := enc) (w := W) (base := base) (spare := sp) (held := held) (n := 3) (cs := msgCells m) (xs := [(i64D m.kind, []), (i64D m.epoch, []), (i64D m.client, []), (i64D m.have_, []), (i64D m.first, []), (i64D m.num, []), (i64D m.ack, []), (i64D m.rev, []), (i64D m.tag, []), (opD m.op, [])]) Tryd.underlying25 (by kernel_rfl) (by
    have ht : ((msgCells m).drop 9).take 5 = opCells m.op := rfl
    simp [ht, hop, show Tryd.prog.cellsOf 3 = 1 by kernel_rfl, show Tryd.prog.cellsOf 23 = 5 by kernel_rfl]
    simp [DataW.trod, msgCells, i64D, Tryd.underlying3, h1, h2, h3, h4, h5, h6, h7, h8, h9])
  simpa [msgD, msgV, Value.cells] using this
end
end Go.Proofs.YtodkhoclbhdihaaDoor
