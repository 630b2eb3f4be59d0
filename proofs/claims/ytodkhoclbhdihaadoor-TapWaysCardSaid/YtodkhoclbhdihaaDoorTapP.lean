/-
  What packages doc and tap compute, as plain functions. No memory and no program in it.
-/
import Derived.Test.YtodkhoclbhdihaaDoorWireP
import Derived.Test.YtodkhoclbhdihaaDoorMapL
namespace Go.Proofs.YtodkhoclbhdihaaDoor

structure GElem where
  ch : UInt8
  client : Int
  seq : Int
  deriving DecidableEq
structure GEdit where
  tag : Int
  op : GOp
  deriving DecidableEq

def zeroOp : GOp := ⟨0, 0, 0, 0, 0⟩
def posF (o : GOp) : Int := if o.pos < 0 ∨ (if o.kind = 0 then 0 else 4095) < o.pos then 43 else 0
def validF (o : GOp) : Int :=
  if o.kind < 0 ∨ 2 < o.kind then 40
  else if o.client < 1 ∨ 64 < o.client ∨ o.seq < 1 ∨ 64 < o.seq then 41
  else if o.kind = 1 then (if (o.ch.toNat : Int) < 32 ∨ 126 < (o.ch.toNat : Int) then 42 else posF o)
  else if (o.ch.toNat : Int) ≠ 0 then 42 else posF o
def fitsF (n : Int) (o : GOp) : Int :=
  if validF o ≠ 0 then validF o
  else if n < 0 ∨ 4096 < n ∨ (o.kind = 1 ∧ n = 4096) then 44
  else if (o.kind = 1 ∧ n < o.pos) ∨ (o.kind = 2 ∧ n ≤ o.pos) then 43 else 0
def elemOf (o : GOp) : GElem := ⟨o.ch, o.client, o.seq⟩
def doneF (d : List GElem) (o : GOp) : List GElem :=
  if o.kind = 1 then d.take o.pos.toNat ++ [elemOf o] ++ d.drop o.pos.toNat
  else if o.kind = 2 then d.take o.pos.toNat ++ d.drop (o.pos.toNat + 1) else d
def applyF (d : List GElem) (o : GOp) : Except Int (List GElem) := if fitsF d.length o = 0 then .ok (doneF d o) else .error (fitsF d.length o)

/-- What a tap knows. -/
structure GTap where
  clients : Int
  epoch : Int
  records : List (Int × GOp)
  revs : List ((Int × Int) × Int)
  edits : List ((Int × Int) × GEdit)

def nameOf (o : GOp) : Int × Int := (o.client, o.seq)
def togetherB (r e : GOp) : Bool := (decide (r.kind = e.kind) && decide (r.ch = e.ch)) || (decide (r.kind = 0) && decide (e.kind = 2))
def fitsRec (T : GTap) (rev : Int) (o : GOp) : Bool :=
  (match get T.records rev with | some o' => decide (o' = o) | none => true) && (match get T.revs (nameOf o) with | some r => decide (r = rev) | none => true) &&
  (match get T.edits (nameOf o) with | some e => togetherB o e.op | none => true)
def fitsEd (T : GTap) (e : GEdit) : Bool :=
  (match get T.edits (nameOf e.op) with | some e' => decide (e' = e) | none => true) && (match get T.revs (nameOf e.op) with | some r => togetherB ((get T.records r).getD zeroOp) e.op | none => true)
/-- Does the message go that way? -/
def rightWay (m : GMsg) (fr to_ : Int) : Bool :=
  if m.kind = 4 ∨ m.kind = 6 ∨ m.kind = 5 then decide (fr = 0) && decide (to_ = m.client) else decide (fr = m.client) && decide (to_ = 0)
def maxI (a b : Int) : Int := if a < b then b else a
/-- What seeing a datagram answers (number and place; (0, 0): nil), and what is known then. -/
def seeF (T : GTap) (fr to_ : Int) (xs : List UInt8) : (Int × Int) × GTap :=
  if (decide (fr = 0) == decide (to_ = 0)) ∨ (fr < 0 ∨ to_ < 0) ∨ (T.clients < fr ∨ T.clients < to_) then ((71, 0), T)
  else match decF xs with
    | .error x => (x, T)
    | .ok m =>
      if rightWay m fr to_ = false then ((281, 0), T)
      else if m.kind = 5 then
        if fitsRec T m.rev m.op then ((0, 0), { T with epoch := maxI T.epoch m.epoch, records := put T.records m.rev m.op, revs := put T.revs (nameOf m.op) m.rev }) else ((280, m.rev), T)
      else if m.kind = 2 then
        if fitsEd T ⟨m.tag, m.op⟩ then ((0, 0), { T with epoch := maxI T.epoch m.epoch, edits := put T.edits (nameOf m.op) ⟨m.tag, m.op⟩ }) else ((280, m.op.seq), T)
      else ((0, 0), { T with epoch := maxI T.epoch m.epoch })

/-- The records from rev on, as far as each can stand. -/
def standGo (recs : List (Int × GOp)) : Nat → Int → List (Int × Int) → List GOp → List GElem → List GOp × List GElem
  | 0, _, _, l, text => (l, text)
  | f + 1, rev, seqs, l, text =>
    match get recs rev with
    | none => (l, text)
    | some o =>
      if o.seq = (get seqs o.client).getD 0 + 1 then
        match applyF text o with
        | .error _ => (l, text)
        | .ok next => standGo recs f (rev + 1) (put seqs o.client ((get seqs o.client).getD 0 + 1)) (l ++ [o]) next
      else (l, text)
def standF (recs : List (Int × GOp)) : List GOp × List GElem := standGo recs (recs.length + 1) 1 [] [] []

theorem get_mem {κ ν : Type} [DecidableEq κ] (l : List (κ × ν)) (k : κ) (v : ν) (h : get l k = some v) : (k, v) ∈ l := by
  induction l with
  | nil => cases h
  | cons p l ih =>
    obtain ⟨a, b⟩ := p
    unfold get at h
    by_cases ha : a = k
    · rw [if_pos ha] at h
      cases h
      subst ha
      exact List.mem_cons_self ..
    · rw [if_neg ha] at h
      exact List.mem_cons_of_mem _ (ih h)
theorem pigeon (n : Nat) (l : List Int) (h : ∀ i : Nat, 1 ≤ i → i ≤ n → (i : Int) ∈ l) : n ≤ l.length := by
  induction n generalizing l with
  | zero => omega
  | succ n ih =>
    have hm := h (n + 1) (by omega) (Nat.le_refl _)
    have := ih (l.erase ((n + 1 : Nat) : Int)) fun i h1 h2 => (List.mem_erase_of_ne (by omega)).2 (h i h1 (by omega))
    rw [List.length_erase_of_mem hm] at this
    have := List.length_pos_of_mem hm
    omega
/-- As many known numbers from 1 on as there are entries at most. -/
theorem known_le (recs : List (Int × GOp)) (n : Nat) (h : ∀ i : Nat, 1 ≤ i → i ≤ n → (get recs (i : Int)).isSome = true) : n ≤ recs.length := by
  have := pigeon n (recs.map (·.1)) fun i h1 h2 => by
    obtain ⟨v, hv⟩ := Option.isSome_iff_exists.1 (h i h1 h2)
    exact List.mem_map.2 ⟨_, get_mem _ _ _ hv, rfl⟩
  rwa [List.length_map] at this
end Go.Proofs.YtodkhoclbhdihaaDoor
