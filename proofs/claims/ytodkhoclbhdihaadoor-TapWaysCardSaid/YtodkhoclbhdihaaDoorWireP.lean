/-
  What package wire computes, as plain functions: fields, bounds, bytes. No memory and no program in it.
-/
import Derived.Test.YtodkhoclbhdihaaDoorOctet
namespace Go.Proofs.YtodkhoclbhdihaaDoor

/-- An operation and a message, field by field. -/
structure GOp where
  kind : Int
  pos : Int
  ch : UInt8
  client : Int
  seq : Int
  deriving DecidableEq
structure GMsg where
  kind : Int
  epoch : Int
  client : Int
  have_ : Int
  first : Int
  num : Int
  ack : Int
  rev : Int
  tag : Int
  op : GOp
  deriving DecidableEq

abbrev V := Nat → Int
def flatL (m : GMsg) : List Int := [m.kind, m.epoch, m.client, m.have_, m.first, m.num, m.ack, m.rev, m.tag, m.op.kind, m.op.pos, (m.op.ch.toNat : Int), m.op.client, m.op.seq]
def flat (m : GMsg) : V := fun i => (flatL m).getD i 0
def opOf (v : V) : GOp := ⟨v 9, v 10, UInt8.ofNat (v 11).toNat, v 12, v 13⟩
def msgOf (k : Int) (v : V) : GMsg := ⟨k, v 1, v 2, v 3, v 4, v 5, v 6, v 7, v 8, opOf v⟩

def sz (f : Nat) : Nat := [1, 1, 1, 2, 1, 2, 2, 2, 2, 1, 2, 1, 1, 1].getD f 0
def shape (k : Nat) : List Nat :=
  match k with
  | 1 => [1, 2, 3, 4]
  | 2 => [1, 2, 5, 6, 8, 9, 10, 11, 12, 13]
  | 3 => [1, 2, 6]
  | 4 => [1, 2]
  | 5 => [1, 2, 5, 6, 7, 9, 10, 11, 12, 13]
  | 6 => [1, 2, 6]
  | _ => []

/-- The least and the greatest value of a field. -/
def loF (f : Nat) (v : V) (mk : Int) : Int :=
  match f with
  | 3 | 8 | 6 | 9 | 10 => 0
  | 11 => if v 9 = 1 then 32 else 0
  | 12 => if mk = 0 then 1 else mk
  | _ => 1
def hiF (f : Nat) (v : V) (mk : Int) : Int :=
  match f with
  | 1 => 255
  | 2 => 64
  | 3 | 8 | 5 | 6 | 7 => 4096
  | 4 => 65
  | 9 => 2
  | 10 => if v 9 = 0 then 0 else 4095
  | 11 => if v 9 = 1 then 126 else 0
  | 12 => if mk = 0 then 64 else mk
  | _ => 64
def mayB (f : Nat) (v : V) (mk : Int) : Bool := decide (loF f v mk ≤ v f) && decide (v f ≤ hiF f v mk)
def namedB (sh : List Nat) (f : Nat) : Bool := sh.contains f

/-- A field's bytes. -/
def fieldB (v : V) (f : Nat) : List UInt8 := if sz f = 2 then [lo8 ((v f).toNat / 256), lo8 (v f).toNat] else [lo8 (v f).toNat]
def layB (v : V) (sh : List Nat) : List UInt8 := lo8 (v 0).toNat :: (sh.map (fieldB v)).flatten

def badF (v : V) (sh : List Nat) (mk : Int) (f : Nat) : Bool := (namedB sh f && !mayB f v mk) || (!namedB sh f && decide (v f ≠ 0))
/-- The first field that may not be, from f on. -/
def firstBad (v : V) (sh : List Nat) (mk : Int) : Option Nat := (List.range' 1 13).find? (badF v sh mk)
/-- A message's datagram, or the error's number and place. -/
def encF (m : GMsg) : Except (Int × Int) (List UInt8) :=
  if m.kind < 1 ∨ 6 < m.kind then .error (61, 0)
  else match firstBad (flat m) (shape m.kind.toNat) (if m.kind = 2 then m.client else 0) with
    | some f => .error (63, (f : Int))
    | none => .ok (sealed (layB (flat m) (shape m.kind.toNat)))

def setV (v : V) (f : Nat) (x : Int) : V := fun i => if i = f then x else v i
/-- The number that stands at p, n bytes long. -/
def getN (xs : List UInt8) (p n : Nat) : Int := if n = 2 then (((xs[p]?).getD 0).toNat : Int) * 256 + (((xs[p + 1]?).getD 0).toNat : Int) else (((xs[p]?).getD 0).toNat : Int)
def lenF (sh : List Nat) : Nat := (sh.map sz).sum
def pickF (xs : List UInt8) (own : Bool) : List Nat → Nat → V → Except Nat V
  | [], _, v => .ok v
  | f :: sh, p, v =>
    if mayB f (setV v f (getN xs p (sz f))) (if own then (setV v f (getN xs p (sz f))) 2 else 0) then pickF xs own sh (p + sz f) (setV v f (getN xs p (sz f))) else .error p
/-- What a datagram's bytes without the sum say. -/
def bodyF (xs : List UInt8) : Except (Int × Int) GMsg :=
  match xs with
  | [] => .error (62, 0)
  | k :: _ =>
    if k.toNat < 1 ∨ 6 < k.toNat then .error (61, 0)
    else if xs.length ≠ 1 + lenF (shape k.toNat) then .error (62, (xs.length : Int))
    else match pickF xs (decide (k.toNat = 2)) (shape k.toNat) 1 (setV (fun _ => 0) 0 (k.toNat : Int)) with
      | .error p => .error (63, (p : Int))
      | .ok v => .ok (msgOf (k.toNat : Int) v)
/-- The message of a datagram, or the error's number and place. -/
def decF (b : List UInt8) : Except (Int × Int) GMsg :=
  if 64 < b.length then .error (60, 64)
  else if b.length < 4 then .error (62, (b.length : Int))
  else if b.drop (b.length - 4) = sum4 (crc (b.take (b.length - 4))) then bodyF (b.take (b.length - 4))
  else .error (64, ((b.length - 4 : Nat) : Int))
end Go.Proofs.YtodkhoclbhdihaaDoor
