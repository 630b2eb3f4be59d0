/-
  Words for memory that all texts of this claim use: a block known whole, a row of cells that a slice reads, and what a call leaves as it was. No program in it.
-/
import Derived.WalkKit
import Derived.OwnWalk
import Derived.Deep.OwnRows
import Derived.Laws.CopyOwn
import Derived.Lib.Hide
import Derived.Deep.Draws
namespace Go.Proofs.YtodkhoclbhdihaaDoor
open Go.RowKit

/-- Block g is just the cells cs of element type t, none of them frozen. -/
def Blk (w : World) (g : Nat) (t : TypeId) (cs : Array Value) : Prop := w.heap[g]? = some (.cells cs t (0, 0))

/-- The world w' has what w had, but for the blocks that S names, and perhaps new blocks; draws are not counted. -/
structure Fr (S : Nat → Prop) (w w' : World) : Prop where
  os : w'.os = w.os
  tape : w'.tape = w.tape
  output : w'.output = w.output
  size : w.heap.size ≤ w'.heap.size
  block : ∀ k, k < w.heap.size → ¬ S k → w'.heap[k]? = w.heap[k]?

abbrev None' : Nat → Prop := fun _ => False
abbrev Only (g : Nat) : Nat → Prop := fun k => k = g

section
variable {w w' w'' : World} {S T : Nat → Prop} {g : Nat} {t : TypeId} {cs : Array Value}
theorem Fr.refl (S : Nat → Prop) (w : World) : Fr S w w := ⟨rfl, rfl, rfl, Nat.le_refl _, fun _ _ _ => rfl⟩
/-- Two steps: the second may also touch what is new since the first began. -/
theorem Fr.trans (h : Fr S w w') (k : Fr T w' w'') (hT : ∀ i, i < w.heap.size → T i → S i) : Fr S w w'' :=
  ⟨k.os.trans h.os, k.tape.trans h.tape, k.output.trans h.output, Nat.le_trans h.size k.size, fun i hi hs =>
    (k.block i (Nat.lt_of_lt_of_le hi h.size) (fun ht => hs (hT i hi ht))).trans (h.block i hi hs)⟩
theorem Fr.trans' (h : Fr S w w') (k : Fr S w' w'') : Fr S w w'' := h.trans k fun _ _ h => h
theorem Fr.weaken (h : Fr S w w') (hT : ∀ i, S i → T i) : Fr T w w' := ⟨h.os, h.tape, h.output, h.size, fun i hi hs => h.block i hi fun hx => hs (hT i hx)⟩
theorem Fr.none (h : Fr None' w w') : Fr S w w' := h.weaken fun _ h => h.elim
theorem Fr.fresh (h : Fr S w w') (hS : ∀ i, S i → w.heap.size ≤ i) : Fr T w w' := ⟨h.os, h.tape, h.output, h.size, fun i hi _ => h.block i hi fun hx => by have := hS i hx; omega⟩
theorem Fr.drew (h : Fr S w w') : Fr S w w'.drew := ⟨h.os, h.tape, h.output, h.size, h.block⟩
theorem Fr.drewN (h : Fr S w w') (n : Nat) : Fr S w (w'.drewN n) := ⟨h.os, h.tape, h.output, h.size, h.block⟩
theorem Fr.alloc (h : Fr S w w') (o : Obj) : Fr S w (w'.alloc o) :=
  h.trans' ⟨rfl, rfl, rfl, by simp, fun k hk _ => Below.heap_alloc _ _ _ hk⟩
theorem Fr.setCell (h : Fr S w w') {p : Addr} (hp : w.heap.size ≤ p.block ∨ S p.block) (u : Value) : Fr S w (w'.setCell p u) :=
  ⟨h.os, h.tape, h.output, by simpa [World.setCell] using h.size, fun k hk hs => (Below.heap_setCell _ _ _ _ (fun e => by subst e; rcases hp with hp | hp; omega; exact hs hp)).trans (h.block k hk hs)⟩
theorem Fr.setRow (h : Fr S w w') {g : Nat} (hp : w.heap.size ≤ g ∨ S g) (cs : Array Value) : Fr S w (w'.setRow g cs) :=
  ⟨h.os, h.tape, h.output, by simpa [World.setRow] using h.size, fun k hk hs => (setRow_other w' g k cs (fun e => by subst e; rcases hp with hp | hp; omega; exact hs hp)).trans (h.block k hk hs)⟩
theorem Fr.grown (h : Fr S w w') {row : Option Nat} (hg : w'.grownBy w'' row) (hr : ∀ k, row = some k → w.heap.size ≤ k ∨ S k) : Fr S w w'' :=
  ⟨hg.os.trans h.os, hg.tape.trans h.tape, hg.output.trans h.output, Nat.le_trans h.size hg.size, fun k hk hs =>
    (hg.block k (Nat.lt_of_lt_of_le hk h.size) (fun e => by rcases hr k e.symm with h | h; omega; exact hs h)).trans (h.block k hk hs)⟩
theorem Fr.below (h : Fr None' w w') : Below w.heap.size w w' := ⟨h.os, h.tape, h.output, h.size, fun k hk => h.block k hk fun h => h⟩
theorem Fr.of_below (h : Below w.heap.size w w') : Fr S w w' := ⟨h.os, h.tape, h.output, h.size, fun k hk _ => h.block k hk⟩
/-- What came at or above a number of blocks is not among them. -/
theorem Fr.cell (h : Fr S w w') {p : Addr} (hp : p.block < w.heap.size) (hs : ¬ S p.block) : w'.cell? p = w.cell? p := World.cell?_of_block (w := w) (h.block p.block hp hs)
theorem Fr.frozen (h : Fr S w w') {p : Addr} (hp : p.block < w.heap.size) (hs : ¬ S p.block) : w'.frozen? p = w.frozen? p := World.frozen?_of_block (w := w) (h.block p.block hp hs)

theorem lt_of_heap {o : Obj} (h : w.heap[g]? = some o) : g < w.heap.size := by
  rcases Nat.lt_or_ge g w.heap.size with hlt | hge
  · exact hlt
  · rw [Array.getElem?_eq_none hge] at h; cases h
theorem lt_of_cell {p : Addr} {v : Value} (h : w.cell? p = some v) : p.block < w.heap.size := by
  rcases Nat.lt_or_ge p.block w.heap.size with hlt | hge
  · exact hlt
  · simp [World.cell?, Array.getElem?_eq_none hge] at h
theorem Blk.lt (h : Blk w g t cs) : g < w.heap.size := lt_of_heap h
theorem Blk.cell (h : Blk w g t cs) (i : Nat) : w.cell? ⟨g, i, none⟩ = cs[i]? := cell_of_row w g i cs t (0, 0) h
theorem Blk.frozen (h : Blk w g t cs) (i : Nat) : w.frozen? ⟨g, i, none⟩ = false := by
  unfold Blk at h
  simp [World.frozen?, h]
theorem Blk.new (w : World) (t : TypeId) (cs : Array Value) : Blk (w.alloc (.cells cs t)) w.heap.size t cs := heap_alloc_new w _
theorem Blk.drew (h : Blk w g t cs) : Blk w.drew g t cs := h
theorem Blk.drewN (h : Blk w g t cs) (n : Nat) : Blk (w.drewN n) g t cs := h
theorem Blk.alloc (h : Blk w g t cs) (o : Obj) : Blk (w.alloc o) g t cs := (Below.heap_alloc w o g h.lt).trans h
theorem Blk.set_ (h : Blk w g t cs) (i : Nat) (u : Value) : Blk (w.setCell ⟨g, i, none⟩ u) g t (cs.setIfInBounds i u) := by
  unfold Blk at h ⊢
  simp [World.setCell, Array.getElem?_modify, h]
theorem Blk.far (h : Blk w g t cs) {p : Addr} (hp : g ≠ p.block) (u : Value) : Blk (w.setCell p u) g t cs := (Below.heap_setCell w p u g hp).trans h
theorem Blk.fr (h : Blk w g t cs) (hb : Fr S w w') (hg : ¬ S g) : Blk w' g t cs := (hb.block g h.lt hg).trans h
theorem Blk.setRow (h : Blk w g t cs) (cs' : Array Value) : Blk (w.setRow g cs') g t cs' := setRow_heap w g cs cs' t (0, 0) h
theorem Blk.setRow_far (h : Blk w g t cs) {g' : Nat} (hp : g ≠ g') (cs' : Array Value) : Blk (w.setRow g' cs') g t cs := (setRow_other w g' g cs' hp).trans h

/-- The slice value '.slice A n c' holds the cells xs, 'size' cells an element. -/
def Reads (w : World) (size : Nat) (A : Option Addr) (n : Nat) (xs : List Value) : Prop :=
  xs.length = n * size ∧ (0 < n → ∃ b off, A = some ⟨b, off, none⟩ ∧ b < w.heap.size ∧ ∀ j u, xs[j]? = some u → w.cell? ⟨b, off + j, none⟩ = some u)

variable {size n : Nat} {A : Option Addr} {xs : List Value}
theorem Reads.nil : Reads w size A 0 [] := ⟨by simp, fun h => absurd h (by omega)⟩
theorem Reads.len1 (h : Reads w 1 A n xs) : xs.length = n := by have := h.1; omega
/-- The blocks that a slice's cells lie in: none if it is empty. -/
def Foot (A : Option Addr) (n : Nat) : Nat → Prop := fun k => 0 < n ∧ ∃ a, A = some a ∧ a.block = k
theorem Reads.fr (h : Reads w size A n xs) (hb : Fr S w w') (hs : ∀ k, Foot A n k → ¬ S k) : Reads w' size A n xs :=
  ⟨h.1, fun hn => by
    obtain ⟨b, off, e, hlt, hc⟩ := h.2 hn
    exact ⟨b, off, e, Nat.lt_of_lt_of_le hlt hb.size, fun j u hu => (hb.cell (p := ⟨b, off + j, none⟩) hlt (hs b ⟨hn, _, e, rfl⟩)).trans (hc j u hu)⟩⟩
theorem Reads.frn (h : Reads w size A n xs) (hb : Fr None' w w') : Reads w' size A n xs := h.fr hb fun _ _ h => h
theorem Reads.cut (h : Reads w size A n xs) {k cap : Nat} (hk : k ≤ n) (hc : n ≤ cap) :
    Reads w size (if cap = k then A else A.map (·.add (k * size))) (n - k) (xs.drop (k * size)) := by
  refine ⟨by rw [List.length_drop, h.1, Nat.sub_mul], fun hn => ?_⟩
  obtain ⟨b, off, rfl, hb, hcell⟩ := h.2 (by omega)
  rw [if_neg (by omega)]
  refine ⟨b, off + k * size, ?_, hb, fun j u hu => ?_⟩
  · simp only [Option.map_some, Addr.add]
    split <;> simp_all
  · rw [Nat.add_assoc]
    exact hcell _ u (by rw [← hu, List.getElem?_drop])
theorem Reads.take (h : Reads w size A n xs) {k : Nat} (hk : k ≤ n) : Reads w size A k (xs.take (k * size)) := by
  refine ⟨?_, fun hn => ?_⟩
  · rw [List.length_take, h.1]
    have := Nat.mul_le_mul_right size hk
    omega
  · obtain ⟨b, off, rfl, hb, hcell⟩ := h.2 (by omega)
    refine ⟨b, off, rfl, hb, fun j u hu => hcell j u ?_⟩
    rw [List.getElem?_take] at hu
    split at hu
    · exact hu
    · cases hu
/-- A block known whole, read as a slice from place off on. -/
theorem Blk.reads (h : Blk w g t cs) {off : Nat} (hx : ∀ j u, xs[j]? = some u → cs[off + j]? = some u) (hl : xs.length = n * size) : Reads w size (some ⟨g, off, none⟩) n xs :=
  ⟨hl, fun _ => ⟨g, off, rfl, h.lt, fun j u hu => (h.cell (off + j)).trans (hx j u hu)⟩⟩
theorem Blk.reads0 (h : Blk w g t cs) (hl : cs.size = n * size) : Reads w size (some ⟨g, 0, none⟩) n cs.toList :=
  h.reads (fun j u hu => by simpa using hu) (by simpa using hl)
/-- One cell of a row. -/
theorem Reads.at1 (h : Reads w 1 A n xs) {k : Nat} (hk : k < n) : ∃ b off u, A = some ⟨b, off, none⟩ ∧ b < w.heap.size ∧ xs[k]? = some u ∧ w.cell? ⟨b, off + k, none⟩ = some u := by
  obtain ⟨b, off, e, hb, hc⟩ := h.2 (by omega)
  have hl : k < xs.length := by have := h.len1; omega
  exact ⟨b, off, xs[k], e, hb, List.getElem?_eq_getElem hl, hc k _ (List.getElem?_eq_getElem hl)⟩

theorem fcell {W w1 : World} (h : Fr None' W w1) : (∀ b o, b < W.heap.size → w1.cell? ⟨b, o, none⟩ = W.cell? ⟨b, o, none⟩) ∧ (∀ b o, b < W.heap.size → w1.frozen? ⟨b, o, none⟩ = W.frozen? ⟨b, o, none⟩) :=
  ⟨fun b o hb => h.cell (p := ⟨b, o, none⟩) hb fun h => h, fun b o hb => h.frozen (p := ⟨b, o, none⟩) hb fun h => h⟩

/-- Bytes as the model's values. -/
def bv (u : UInt8) : Value := .int .u8 (u.toNat : Int)
def vi (i : Int) : Value := .int .i64 i
/-- A slice of bytes. -/
abbrev RB (w : World) (A : Option Addr) (n : Nat) (l : List UInt8) : Prop := Reads w 1 A n (l.map bv)
abbrev RI (w : World) (A : Option Addr) (n : Nat) (l : List Int) : Prop := Reads w 1 A n (l.map vi)
theorem bv_one (l : List UInt8) : ∀ v ∈ l.map bv, v.oneCell' = true := by
  intro v hv
  obtain ⟨u, _, rfl⟩ := List.mem_map.1 hv
  rfl
theorem u8_lt (u : UInt8) : (u.toNat : Int) < 256 := by have := u.toNat_lt; omega
end
end Go.Proofs.YtodkhoclbhdihaaDoor
