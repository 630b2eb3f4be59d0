/-
  Words for memory that all texts of this claim use: a block known whole, a row of cells that a slice reads, and what a call leaves as it was. No program in it.
-/
import Derived.WalkKit
import Derived.OwnWalk
import Derived.Deep.OwnRows
import Derived.Laws.CopyOwn
import Derived.Lib.Hide
import Derived.Deep.Draws
import Derived.Test.YtodkhoclbhdihaaGreatDoorRows
import Derived.LaidEql
import Derived.Stop.Asserts
import Derived.RowKitTokens
namespace Go.Proofs.YtodkhoclbhdihaaGreatDoor
open Go.RowKit

/-- Block g is just the cells cs of element type t, none of them frozen. -/
def Blk (w : World) (g : Nat) (t : TypeId) (cs : Array Value) : Prop := w.heap[g]? = some (.cells cs t (0, 0))

/-- The world w' has what w had, but for the blocks that S names, and perhaps new blocks; draws are not counted. -/
structure Fr (S : Nat → Prop) (w w' : World) : Prop where
  os : w'.os = w.os
  tape : w'.tape = w.tape
  output : w'.output = w.output
  size : w.heap.size ≤ w'.heap.size
  block : ∀ k, k < w.heap.size → ¬ S k → w'.heap[k]? = w.heap[k]?

abbrev None' : Nat → Prop := fun _ => False
abbrev Only (g : Nat) : Nat → Prop := fun k => k = g

section
variable {w w' w'' : World} {S T : Nat → Prop} {g : Nat} {t : TypeId} {cs : Array Value}
theorem Fr.refl (S : Nat → Prop) (w : World) : Fr S w w := ⟨rfl, rfl, rfl, Nat.le_refl _, fun _ _ _ => rfl⟩
/-- Two steps: the second may also touch what is new since the first began. -/
theorem Fr.trans (h : Fr S w w') (k : Fr T w' w'') (hT : ∀ i, i < w.heap.size → T i → S i) : Fr S w w'' :=
  ⟨k.os.trans h.os, k.tape.trans h.tape, k.output.trans h.output, Nat.le_trans h.size k.size, fun i hi hs =>
    (k.block i (Nat.lt_of_lt_of_le hi h.size) (fun ht => hs (hT i hi ht))).trans (h.block i hi hs)⟩
theorem Fr.trans' (h : Fr S w w') (k : Fr S w' w'') : Fr S w w'' := h.trans k fun _ _ h => h
theorem Fr.weaken (h : Fr S w w') (hT : ∀ i, S i → T i) : Fr T w w' := ⟨h.os, h.tape, h.output, h.size, fun i hi hs => h.block i hi fun hx => hs (hT i hx)⟩
theorem Fr.none (h : Fr None' w w') : Fr S w w' := h.weaken fun _ h => h.elim
theorem Fr.fresh (h : Fr S w w') (hS : ∀ i, S i → w.heap.size ≤ i) : Fr T w w' := ⟨h.os, h.tape, h.output, h.size, fun i hi _ => h.block i hi fun hx => by have := hS i hx; omega⟩
theorem Fr.drew (h : Fr S w w') : Fr S w w'.drew := ⟨h.os, h.tape, h.output, h.size, h.block⟩
theorem Fr.drewN (h : Fr S w w') (n : Nat) : Fr S w (w'.drewN n) := ⟨h.os, h.tape, h.output, h.size, h.block⟩
theorem Fr.alloc (h : Fr S w w') (o : Obj) : Fr S w (w'.alloc o) :=
  h.trans' ⟨rfl, rfl, rfl, by simp, fun k hk _ => Below.heap_alloc _ _ _ hk⟩
theorem Fr.setCell (h : Fr S w w') {p : Addr} (hp : w.heap.size ≤ p.block ∨ S p.block) (u : Value) : Fr S w (w'.setCell p u) :=
  ⟨h.os, h.tape, h.output, by simpa [World.setCell] using h.size, fun k hk hs => (Below.heap_setCell _ _ _ _ (fun e => by subst e; rcases hp with hp | hp; omega; exact hs hp)).trans (h.block k hk hs)⟩
theorem Fr.setRow (h : Fr S w w') {g : Nat} (hp : w.heap.size ≤ g ∨ S g) (cs : Array Value) : Fr S w (w'.setRow g cs) :=
  ⟨h.os, h.tape, h.output, by simpa [World.setRow] using h.size, fun k hk hs => (setRow_other w' g k cs (fun e => by subst e; rcases hp with hp | hp; omega; exact hs hp)).trans (h.block k hk hs)⟩
theorem Fr.grown (h : Fr S w w') {row : Option Nat} (hg : w'.grownBy w'' row) (hr : ∀ k, row = some k → w.heap.size ≤ k ∨ S k) : Fr S w w'' :=
  ⟨hg.os.trans h.os, hg.tape.trans h.tape, hg.output.trans h.output, Nat.le_trans h.size hg.size, fun k hk hs =>
    (hg.block k (Nat.lt_of_lt_of_le hk h.size) (fun e => by rcases hr k e.symm with h | h; omega; exact hs h)).trans (h.block k hk hs)⟩
theorem Fr.below (h : Fr None' w w') : Below w.heap.size w w' := ⟨h.os, h.tape, h.output, h.size, fun k hk => h.block k hk fun h => h⟩
theorem Fr.of_below (h : Below w.heap.size w w') : Fr S w w' := ⟨h.os, h.tape, h.output, h.size, fun k hk _ => h.block k hk⟩
/-- What came at or above a number of blocks is not among them. -/
theorem Fr.cell (h : Fr S w w') {p : Addr} (hp : p.block < w.heap.size) (hs : ¬ S p.block) : w'.cell? p = w.cell? p := World.cell?_of_block (w := w) (h.block p.block hp hs)
theorem Fr.frozen (h : Fr S w w') {p : Addr} (hp : p.block < w.heap.size) (hs : ¬ S p.block) : w'.frozen? p = w.frozen? p := World.frozen?_of_block (w := w) (h.block p.block hp hs)

theorem lt_of_heap {o : Obj} (h : w.heap[g]? = some o) : g < w.heap.size := by
  rcases Nat.lt_or_ge g w.heap.size with hlt | hge
  · exact hlt
  · rw [Array.getElem?_eq_none hge] at h; cases h
theorem lt_of_cell {p : Addr} {v : Value} (h : w.cell? p = some v) : p.block < w.heap.size := by
  rcases Nat.lt_or_ge p.block w.heap.size with hlt | hge
  · exact hlt
  · simp [World.cell?, Array.getElem?_eq_none hge] at h
theorem Blk.lt (h : Blk w g t cs) : g < w.heap.size := lt_of_heap h
theorem Blk.cell (h : Blk w g t cs) (i : Nat) : w.cell? ⟨g, i, none⟩ = cs[i]? := cell_of_row w g i cs t (0, 0) h
theorem Blk.frozen (h : Blk w g t cs) (i : Nat) : w.frozen? ⟨g, i, none⟩ = false := by
  unfold Blk at h
  simp [World.frozen?, h]
theorem Blk.new (w : World) (t : TypeId) (cs : Array Value) : Blk (w.alloc (.cells cs t)) w.heap.size t cs := heap_alloc_new w _
theorem Blk.drew (h : Blk w g t cs) : Blk w.drew g t cs := h
theorem Blk.drewN (h : Blk w g t cs) (n : Nat) : Blk (w.drewN n) g t cs := h
theorem Blk.alloc (h : Blk w g t cs) (o : Obj) : Blk (w.alloc o) g t cs := (Below.heap_alloc w o g h.lt).trans h
theorem Blk.set_ (h : Blk w g t cs) (i : Nat) (u : Value) : Blk (w.setCell ⟨g, i, none⟩ u) g t (cs.setIfInBounds i u) := by
  unfold Blk at h ⊢
  simp [World.setCell, Array.getElem?_modify, h]
theorem Blk.far (h : Blk w g t cs) {p : Addr} (hp : g ≠ p.block) (u : Value) : Blk (w.setCell p u) g t cs := (Below.heap_setCell w p u g hp).trans h
theorem Blk.fr (h : Blk w g t cs) (hb : Fr S w w') (hg : ¬ S g) : Blk w' g t cs := (hb.block g h.lt hg).trans h
theorem Blk.setRow (h : Blk w g t cs) (cs' : Array Value) : Blk (w.setRow g cs') g t cs' := setRow_heap w g cs cs' t (0, 0) h
theorem Blk.setRow_far (h : Blk w g t cs) {g' : Nat} (hp : g ≠ g') (cs' : Array Value) : Blk (w.setRow g' cs') g t cs := (setRow_other w g' g cs' hp).trans h

/-- The slice value '.slice A n c' holds the cells xs, 'size' cells an element. -/
def Reads (w : World) (size : Nat) (A : Option Addr) (n : Nat) (xs : List Value) : Prop :=
  xs.length = n * size ∧ (0 < n → ∃ b off, A = some ⟨b, off, none⟩ ∧ b < w.heap.size ∧ ∀ j u, xs[j]? = some u → w.cell? ⟨b, off + j, none⟩ = some u)

variable {size n : Nat} {A : Option Addr} {xs : List Value}
theorem Reads.nil : Reads w size A 0 [] := ⟨by simp, fun h => absurd h (by omega)⟩
theorem Reads.len1 (h : Reads w 1 A n xs) : xs.length = n := by have := h.1; omega
/-- The blocks that a slice's cells lie in: none if it is empty. -/
def Foot (A : Option Addr) (n : Nat) : Nat → Prop := fun k => 0 < n ∧ ∃ a, A = some a ∧ a.block = k
theorem Reads.fr (h : Reads w size A n xs) (hb : Fr S w w') (hs : ∀ k, Foot A n k → ¬ S k) : Reads w' size A n xs :=
  ⟨h.1, fun hn => by
    obtain ⟨b, off, e, hlt, hc⟩ := h.2 hn
    exact ⟨b, off, e, Nat.lt_of_lt_of_le hlt hb.size, fun j u hu => (hb.cell (p := ⟨b, off + j, none⟩) hlt (hs b ⟨hn, _, e, rfl⟩)).trans (hc j u hu)⟩⟩
theorem Reads.frn (h : Reads w size A n xs) (hb : Fr None' w w') : Reads w' size A n xs := h.fr hb fun _ _ h => h
theorem Reads.cut (h : Reads w size A n xs) {k cap : Nat} (hk : k ≤ n) (hc : n ≤ cap) :
    Reads w size (if cap = k then A else A.map (·.add (k * size))) (n - k) (xs.drop (k * size)) := by
  refine ⟨by rw [List.length_drop, h.1, Nat.sub_mul], fun hn => ?_⟩
  obtain ⟨b, off, rfl, hb, hcell⟩ := h.2 (by omega)
  rw [if_neg (by omega)]
  refine ⟨b, off + k * size, ?_, hb, fun j u hu => ?_⟩
  · simp only [Option.map_some, Addr.add]
    split <;> simp_all
  · rw [Nat.add_assoc]
    exact hcell _ u (by rw [← hu, List.getElem?_drop])
theorem Reads.take (h : Reads w size A n xs) {k : Nat} (hk : k ≤ n) : Reads w size A k (xs.take (k * size)) := by
  refine ⟨?_, fun hn => ?_⟩
  · rw [List.length_take, h.1]
    have := Nat.mul_le_mul_right size hk
    omega
  · obtain ⟨b, off, rfl, hb, hcell⟩ := h.2 (by omega)
    refine ⟨b, off, rfl, hb, fun j u hu => hcell j u ?_⟩
    rw [List.getElem?_take] at hu
    split at hu
    · exact hu
    · cases hu
/-- A block known whole, read as a slice from place off on. -/
theorem Blk.reads (h : Blk w g t cs) {off : Nat} (hx : ∀ j u, xs[j]? = some u → cs[off + j]? = some u) (hl : xs.length = n * size) : Reads w size (some ⟨g, off, none⟩) n xs :=
  ⟨hl, fun _ => ⟨g, off, rfl, h.lt, fun j u hu => (h.cell (off + j)).trans (hx j u hu)⟩⟩
theorem Blk.reads0 (h : Blk w g t cs) (hl : cs.size = n * size) : Reads w size (some ⟨g, 0, none⟩) n cs.toList :=
  h.reads (fun j u hu => by simpa using hu) (by simpa using hl)
/-- One cell of a row. -/
theorem Reads.at1 (h : Reads w 1 A n xs) {k : Nat} (hk : k < n) : ∃ b off u, A = some ⟨b, off, none⟩ ∧ b < w.heap.size ∧ xs[k]? = some u ∧ w.cell? ⟨b, off + k, none⟩ = some u := by
  obtain ⟨b, off, e, hb, hc⟩ := h.2 (by omega)
  have hl : k < xs.length := by have := h.len1; omega
  exact ⟨b, off, xs[k], e, hb, List.getElem?_eq_getElem hl, hc k _ (List.getElem?_eq_getElem hl)⟩

theorem fcell {W w1 : World} (h : Fr None' W w1) : (∀ b o, b < W.heap.size → w1.cell? ⟨b, o, none⟩ = W.cell? ⟨b, o, none⟩) ∧ (∀ b o, b < W.heap.size → w1.frozen? ⟨b, o, none⟩ = W.frozen? ⟨b, o, none⟩) :=
  ⟨fun b o hb => h.cell (p := ⟨b, o, none⟩) hb fun h => h, fun b o hb => h.frozen (p := ⟨b, o, none⟩) hb fun h => h⟩

/-- Bytes as the model's values. -/
def bv (u : UInt8) : Value := .int .u8 (u.toNat : Int)
def vi (i : Int) : Value := .int .i64 i
/-- A slice of bytes. -/
abbrev RB (w : World) (A : Option Addr) (n : Nat) (l : List UInt8) : Prop := Reads w 1 A n (l.map bv)
abbrev RI (w : World) (A : Option Addr) (n : Nat) (l : List Int) : Prop := Reads w 1 A n (l.map vi)
theorem bv_one (l : List UInt8) : ∀ v ∈ l.map bv, v.oneCell' = true := by
  intro v hv
  obtain ⟨u, _, rfl⟩ := List.mem_map.1 hv
  rfl
theorem u8_lt (u : UInt8) : (u.toNat : Int) < 256 := by have := u.toNat_lt; omega
end
end Go.Proofs.YtodkhoclbhdihaaGreatDoor

/-
  Contracts of package octet: bytes put together, the sum, the sealed bytes, the reader.
-/
namespace Go.Proofs.YtodkhoclbhdihaaGreatDoor
open Go.RowKit

theorem u8_info : (Tryz.prog.info? 5).map (fun i => (i.zero, i.size, i.bytes)) = some (some (.int .u8 0), 1, 1) := by kernel_rfl
theorem u8_size : (Tryz.prog.info? 5).map (·.size) = some 1 := by kernel_rfl

/-- A new block of bytes, and the slice that is just it. -/
def NewB (w w' : World) (v : Value) (l : List UInt8) : Prop :=
  ∃ g, w.heap.size ≤ g ∧ v = .slice (some ⟨g, 0, none⟩) l.length l.length ∧ Blk w' g 5 (l.map bv).toArray

def zeros (n : Nat) : List Value := List.replicate n (.int .u8 0)
theorem zeros_len (n : Nat) : (zeros n).length = n := List.length_replicate
theorem made_zeros (n : Nat) : madeCells #[.int .u8 0] n = (zeros n).toArray := by
  apply Array.ext
  · simp [size_madeCells, zeros]
  · intro i h1 h2
    simp [madeCells, zeros, Nat.mod_one]
theorem run_mk (w : World) (n : Nat) (N : Int) (hN : N = n) (h : n ≤ 281474976710656) :
    (Instr.makeSlice 48 (.int .i64 N) (.int .i64 N)).run Tryz.prog w = .ok (.slice (some ⟨w.heap.size, 0, none⟩) n n) (w.alloc (.cells (zeros n).toArray 5)) := by
  subst hN
  have h := run_make_row' 48 5 (.int .u8 0) 1 Tryz.underlying48 u8_info rfl .i64 .i64 n (by omega) (by omega) w
  rw [h, made_zeros]

theorem alloc_setRow (w : World) (t : TypeId) (cs cs' : Array Value) : (w.alloc (.cells cs t)).setRow w.heap.size cs' = w.alloc (.cells cs' t) := by
  have h : (w.heap.push (.cells cs t)).modify w.heap.size (fun | .cells _ elem frozen => .cells cs' elem frozen | o => o) = w.heap.push (.cells cs' t) := by
    apply Array.ext_getElem?
    intro i
    rw [Array.getElem?_modify, Array.getElem?_push, Array.getElem?_push]
    by_cases h : w.heap.size = i
    · subst h; simp
    · rw [if_neg h, if_neg (fun e => h e.symm), if_neg (fun e => h e.symm)]
  show World.mk _ _ _ _ _ = World.mk _ _ _ _ _
  congr 1

/-- copy into a block that was just made. -/
theorem run_copy_new (w : World) (ty : TypeId) (off dl dc n c : Nat) (A : Option Addr) (cur xs : List Value) (hr : Reads w 1 A n xs) (h1 : ∀ v ∈ xs, v.oneCell' = true)
    (hn : n ≤ dl) (hfit : off + n ≤ cur.length) :
    (Builtin.copy_ #[48, 48] ty #[.slice (some ⟨w.heap.size, off, none⟩) dl dc, .slice A n c]).run Tryz.prog (w.alloc (.cells cur.toArray 5)) =
      .ok (.int .i64 (n : Int)) (w.alloc (.cells (splice cur off xs).toArray 5)) := by
  by_cases h0 : n = 0
  · subst h0
    have hx : xs = [] := List.eq_nil_of_length_eq_zero (by have := hr.len1; omega)
    subst hx
    rw [run_copy_none (P := Tryz.prog) _ 48 48 ty 5 _ _ _ _ _ _ Tryz.underlying48 u8_size (by simp)]
    simp [splice, goInt]
  · obtain ⟨b, o, rfl, hb, hc⟩ := hr.2 (by omega)
    have hl := hr.len1
    rw [run_copy_row (P := Tryz.prog) _ 48 48 ty 5 w.heap.size off dl dc ⟨b, o, none⟩ n c cur.toArray 5 xs Tryz.underlying48 u8_size (heap_alloc_new w _) (by rw [hl]; exact (Nat.min_eq_left hn).symm) ?_ (by simp; omega) h1]
    · rw [alloc_setRow, hl]
      simp [splice, goInt, hl]
    · intro j v hv
      rw [Addr.add]
      have hj := hc j v hv
      have hlt : (⟨b, o + j, none⟩ : Addr).block < w.heap.size := hb
      have := World.cell?_alloc_lt w (.cells cur.toArray 5) ⟨b, o + j, none⟩ hlt
      split
      · rename_i h0; subst h0; simpa using this.trans hj
      · exact this.trans hj

theorem splice_all (xs : List Value) (n m : Nat) (h : xs.length = n) : splice (zeros (n + m)) 0 xs = xs ++ zeros m := by
  simp [splice, zeros, h]
theorem splice_end (xs ys : List Value) (n m : Nat) (h : xs.length = n) (h' : ys.length = m) : splice (xs ++ zeros m) n ys = xs ++ ys := by
  subst h h'
  simp [splice, zeros]

theorem with_any (A B : Option Addr) (n m c d : Nat) (xs ys : List UInt8) (w : World) (ha : RB w A n xs) (hb : RB w B m ys) (hn : n + m ≤ 16777216) :
    Calls Tryz.prog 135 #[.slice A n c, .slice B m d] w fun e w' => ∃ v, e = .returned v ∧ NewB w w' v (xs ++ ys) ∧ Fr None' w w' := by
  have hl1 := ha.len1
  have hl2 := hb.len1
  have hfin : ∃ v, Ending.returned (.slice (some ⟨w.heap.size, 0, none⟩) (n + m) (n + m)) = Ending.returned v ∧ NewB w (w.alloc (.cells (xs.map bv ++ ys.map bv).toArray 5)) v (xs ++ ys) ∧ Fr None' w (w.alloc (.cells (xs.map bv ++ ys.map bv).toArray 5)) := by
    refine ⟨_, rfl, ⟨w.heap.size, Nat.le_refl _, ?_, ?_⟩, (Fr.refl _ _).alloc _⟩
    · simp at hl1 hl2 ⊢
      omega
    · rw [List.map_append]
      exact Blk.new _ _ _
  have hmk := run_mk w (n + m) (↑n + ↑m) (by omega) (by omega)
  have hc1 := run_copy_new w 3 0 (n + m) (n + m) n c A (zeros (n + m)) (xs.map bv) ha (bv_one xs) (by omega) (by rw [zeros_len]; omega)
  rw [splice_all _ n m hl1] at hc1
  have hc2 := run_copy_new w 3 (if m = 0 then 0 else n) m m m d B (xs.map bv ++ zeros m) (ys.map bv) hb (bv_one ys) (by omega) (by rw [List.length_append, zeros_len]; split <;> omega)
  have hs2 : splice (xs.map bv ++ zeros m) (if m = 0 then 0 else n) (ys.map bv) = xs.map bv ++ ys.map bv := by
    split
    · rename_i h0
      subst h0
      have : ys.map bv = [] := List.eq_nil_of_length_eq_zero hl2
      simp [this, splice, zeros]
    · exact splice_end _ _ n m hl1 hl2
  rw [hs2] at hc2
  generalize xs.map bv ++ zeros m = X at hc1 hc2
  generalize zeros (n + m) = Z at hmk hc1
  clear hl1 hl2 hs2
  generalize xs.map bv ++ ys.map bv = Y at hc2 hfin
  have HF := Lib.hid hfin
  clear hfin
  by_cases hm : m = 0
  · subst hm
    simp only [Nat.add_zero, if_true, Int.natCast_zero, Int.add_zero] at hmk hc1 hc2 HF
    go_enter Tryz.func135, Tryz.ntmps135
    go_wp2
    go_ret
    exact HF.out
  · simp only [hm, if_false] at hc2
    go_enter Tryz.func135, Tryz.ntmps135
    go_wp2
    go_ret
    exact HF.out

/-! ### the sum -/
def tab : List Nat := [0, 498536548, 997073096, 651767980, 1994146192, 1802195444, 1303535960, 1342533948, 3988292384, 4027552580, 3604390888, 3412177804, 2607071920, 2262029012, 2685067896, 3183342108]
def tb (i : Nat) : Nat := tab.getD i 0
/-- Half a byte's step of the register. -/
def nib (r : Nat) : Nat := r / 16 ^^^ tb (r % 16)
def crcStep (r : Nat) (c : UInt8) : Nat := nib (nib (r ^^^ c.toNat))
def crcReg (l : List UInt8) : Nat := l.foldl crcStep 4294967295
/-- The sum of a list of bytes. -/
def crc (l : List UInt8) : Nat := 4294967295 ^^^ crcReg l
theorem tab_lt (i : Nat) : tb i < 4294967296 := by
  unfold tb
  by_cases h : i < 16
  · have : ∀ i : Fin 16, tab.getD i.1 0 < 4294967296 := by decide
    exact this ⟨i, h⟩
  · rw [List.getD_eq_getElem?_getD, List.getElem?_eq_none (by simp [tab]; omega)]
    decide
theorem nib_lt (r : Nat) (h : r < 4294967296) : nib r < 4294967296 := by
  unfold nib
  exact Nat.xor_lt_two_pow (n := 32) (by omega) (tab_lt _)
theorem crcStep_lt (r : Nat) (c : UInt8) (h : r < 4294967296) : crcStep r c < 4294967296 := by
  unfold crcStep
  refine nib_lt _ (nib_lt _ (Nat.xor_lt_two_pow (n := 32) h ?_))
  have := c.toNat_lt
  omega
theorem crcReg_lt (l : List UInt8) : crcReg l < 4294967296 := by
  unfold crcReg
  have : ∀ (l : List UInt8) (r : Nat), r < 4294967296 → l.foldl crcStep r < 4294967296 := by
    intro l
    induction l with
    | nil => intro r h; exact h
    | cons c l ih => intro r h; exact ih _ (crcStep_lt r c h)
  exact this l _ (by decide)
theorem crc_lt (l : List UInt8) : crc l < 4294967296 := Nat.xor_lt_two_pow (n := 32) (by decide) (crcReg_lt l)

/-- The table of the sum lies in its variable. -/
def Tab (w : World) : Prop := 3 < w.heap.size ∧ ∀ i, i < 16 → w.cell? ⟨3, i, none⟩ = some (.int .u32 ((tb i : Nat) : Int))

theorem RB.at_ {w : World} {A : Option Addr} {n k : Nat} {l : List UInt8} (h : RB w A n l) (hk : k < n) : ∃ b off, ∃ u : UInt8, A = some ⟨b, off, none⟩ ∧ b < w.heap.size ∧ l[k]? = some u ∧ w.cell? ⟨b, off + k, none⟩ = some (.int .u8 (u.toNat : Int)) := by
  obtain ⟨b, off, u, hA, hb, hx, hc⟩ := h.at1 hk
  rw [List.getElem?_map, Option.map_eq_some_iff] at hx
  obtain ⟨u', hu, rfl⟩ := hx
  exact ⟨b, off, u', hA, hb, hu, hc⟩

theorem and15 (r : Nat) (h : r < 4294967296) : bits .and .u32 (r : Int) 15 = ((r % 16 : Nat) : Int) := by
  have := u32_and_nat r 15 h (by omega)
  rw [nat_mask4] at this
  exact this
theorem nib_xor (r : Nat) (h : r < 4294967296) : bits .xor .u32 ((r : Int) / 16) ((tb (r % 16) : Nat) : Int) = (nib r : Int) :=
  u32_xor_nat (r / 16) _ (by omega) (tab_lt _)
theorem max_xor (r : Nat) (h : r < 4294967296) : bits .xor .u32 IntKind.u32.max (r : Int) = ((4294967295 ^^^ r : Nat) : Int) :=
  u32_xor_nat 4294967295 r (by omega) h
theorem take_snoc {l : List UInt8} {k : Nat} {u : UInt8} (h : l[k]? = some u) : l.take (k + 1) = l.take k ++ [u] := by
  rw [List.take_add_one, h]
  rfl
theorem crcReg_snoc {l : List UInt8} {k : Nat} {u : UInt8} (h : l[k]? = some u) : crcReg (l.take (k + 1)) = crcStep (crcReg (l.take k)) u := by
  rw [take_snoc h, crcReg, List.foldl_append]
  rfl

set_option maxHeartbeats 1000000 in
theorem sum_any (A : Option Addr) (n c : Nat) (xs : List UInt8) (w : World) (hT : Tab w) (ha : RB w A n xs) (hn : n ≤ 16777216) :
    Calls Tryz.prog 134 #[.slice A n c] w fun e w' => e = .returned (.int .u32 (crc xs : Nat)) ∧ w = w' := by
  have hl1 := Lib.hid ha.len1
  go_enter Tryz.func134, Tryz.ntmps134
  go_wp2
  go_loop [3, 8] (fun r i => ∃ k : Nat, k ≤ n ∧ i = .int .i64 k ∧ r = .int .u32 (crcReg (xs.take k) : Nat)) (fun _ i => n - (intOf i).toNat)
  case atStart => exact ⟨0, Nat.zero_le _, rfl, rfl⟩
  case round =>
    obtain ⟨k, hk, rfl, rfl⟩ := hrel
    by_cases hlt : k < n
    · obtain ⟨b, off, u, rfl, hb, hx, hc⟩ := ha.at_ hlt
      have HS := Lib.hid (crcReg_snoc hx)
      have hr := crcReg_lt (xs.take k)
      generalize hR : crcReg (xs.take k) = r at hr HS
      have hr1 : r ^^^ u.toNat < 4294967296 := Nat.xor_lt_two_pow (n := 32) hr (by have := u.toNat_lt; omega)
      have e1 := u32_xor_nat r u.toNat hr (by have := u.toNat_lt; omega)
      unfold crcStep at HS
      generalize r ^^^ u.toNat = r1 at e1 hr1 HS
      have hr2 := nib_lt r1 hr1
      have e2 := and15 r1 hr1
      have e3 := nib_xor r1 hr1
      have ht1 := hT.2 (r1 % 16) (by omega)
      have hm1 : r1 % 16 < 16 := by omega
      generalize nib r1 = r2 at hr2 e3 HS
      have e4 := and15 r2 hr2
      have e5 := nib_xor r2 hr2
      have ht2 := hT.2 (r2 % 16) (by omega)
      have hm2 : r2 % 16 < 16 := by omega
      have HR := Lib.hid hR
      clear hR
      have hu := u8_lt u
      go_wp2
      go_round
      case rel => exact ⟨k + 1, by omega, by go_num, by rw [HS.out]⟩
      case measure => simp [intOf]; omega
    · have e1 := max_xor _ (crcReg_lt (xs.take k))
      have HE : Hid (((4294967295 ^^^ crcReg (xs.take k) : Nat)) = crc xs) := by
        unfold crc
        rw [List.take_of_length_le (by have := hl1.out; simp at this; omega)]
        rfl
      go_wp2
      go_ret
      exact ⟨congrArg (fun x : Nat => Ending.returned (.int .u32 (x : Int))) HE.out, rfl⟩

/-! ### bytes put behind -/
/-- A byte list that a call has just laid as its variadic argument. -/
theorem lit_reads (w : World) (t : TypeId) (l : List UInt8) (cs : Array Value) (h : cs = (l.map bv).toArray) : RB (w.alloc (.cells cs t)) (some ⟨w.heap.size, 0, none⟩) l.length l := by
  subst h
  exact (Blk.new w t _).reads0 (by simp)
theorem NewB.later {w0 w w' : World} {v : Value} {l : List UInt8} (h : NewB w w' v l) (hs : w0.heap.size ≤ w.heap.size) : NewB w0 w' v l := by
  obtain ⟨g, hg, hv, hb⟩ := h
  exact ⟨g, Nat.le_trans hs hg, hv, hb⟩
def lo8 (n : Nat) : UInt8 := UInt8.ofNat n
theorem lo8_nat (n : Nat) : (lo8 n).toNat = n % 256 := by simp [lo8]
theorem bv_lo8 (n : Nat) : bv (lo8 n) = .int .u8 ((n : Int) % 256) := by
  unfold bv
  rw [lo8_nat]
  rfl
theorem shr_nat (n k : Nat) : ((n / k : Nat) : Int) = (n : Int) / (k : Int) := by simp

theorem put8_any (A : Option Addr) (n c N : Nat) (xs : List UInt8) (w : World) (ha : RB w A n xs) (hn : n ≤ 10000) :
    Calls Tryz.prog 136 #[.slice A n c, .int .u64 (N : Int)] w fun e w' => ∃ v, e = .returned v ∧ NewB w w' v (xs ++ [lo8 N]) ∧ Fr None' w w' := by
  have hb := lit_reads w 5 [lo8 N] #[.int .u8 ((N : Int) % 256)] (by simp [bv_lo8])
  have hf : Fr None' w (w.alloc (.cells #[.int .u8 ((N : Int) % 256)] 5)) := (Fr.refl _ _).alloc _
  have Hc := Lib.hid (with_any A (some ⟨w.heap.size, 0, none⟩) n 1 c 1 xs [lo8 N] _ (ha.frn hf) hb (by omega))
  go_enter Tryz.func136, Tryz.ntmps136
  go_wp2_with (go_at_call 135; refine Hc.out.mono ?_; rintro e w' ⟨v, rfl, hv, hf'⟩)
  go_ret
  exact ⟨v, rfl, hv.later hf.size, hf.trans' hf'⟩

theorem put16_any (A : Option Addr) (n c N : Nat) (xs : List UInt8) (w : World) (ha : RB w A n xs) (hn : n ≤ 10000) :
    Calls Tryz.prog 137 #[.slice A n c, .int .u64 (N : Int)] w fun e w' => ∃ v, e = .returned v ∧ NewB w w' v (xs ++ [lo8 (N / 256), lo8 N]) ∧ Fr None' w w' := by
  have hb := lit_reads w 5 [lo8 (N / 256), lo8 N] #[.int .u8 ((N : Int) / 256 % 256), .int .u8 ((N : Int) % 256)] (by simp [bv_lo8])
  have hf : Fr None' w (w.alloc (.cells #[.int .u8 ((N : Int) / 256 % 256), .int .u8 ((N : Int) % 256)] 5)) := (Fr.refl _ _).alloc _
  have Hc := Lib.hid (with_any A (some ⟨w.heap.size, 0, none⟩) n 2 c 2 xs _ _ (ha.frn hf) hb (by omega))
  go_enter Tryz.func137, Tryz.ntmps137
  go_wp2_with (go_at_call 135; refine Hc.out.mono ?_; rintro e w' ⟨v, rfl, hv, hf'⟩)
  go_ret
  exact ⟨v, rfl, hv.later hf.size, hf.trans' hf'⟩

/-- The four bytes of a sum, the lowest first. -/
def sum4 (s : Nat) : List UInt8 := [lo8 s, lo8 (s / 256), lo8 (s / 65536), lo8 (s / 16777216)]
/-- Bytes and their sum. -/
def sealed (l : List UInt8) : List UInt8 := l ++ sum4 (crc l)

theorem seal_any (A : Option Addr) (n c : Nat) (xs : List UInt8) (w : World) (hT : Tab w) (ha : RB w A n xs) (hn : n ≤ 10000) :
    Calls Tryz.prog 95 #[.slice A n c] w fun e w' => ∃ v, e = .returned v ∧ NewB w w' v (sealed xs) ∧ Fr None' w w' := by
  have Hs := Lib.hid (sum_any A n c xs w hT ha (by omega))
  unfold sealed
  generalize crc xs = s at Hs
  have hb := lit_reads w 5 (sum4 s) #[.int .u8 ((s : Int) % 256), .int .u8 ((s : Int) / 256 % 256), .int .u8 ((s : Int) / 65536 % 256), .int .u8 ((s : Int) / 16777216 % 256)] (by simp [sum4, bv_lo8])
  have hf : Fr None' w (w.alloc (.cells #[.int .u8 ((s : Int) % 256), .int .u8 ((s : Int) / 256 % 256), .int .u8 ((s : Int) / 65536 % 256), .int .u8 ((s : Int) / 16777216 % 256)] 5)) := (Fr.refl _ _).alloc _
  have Hc := Lib.hid (with_any A (some ⟨w.heap.size, 0, none⟩) n 4 c 4 xs _ _ (ha.frn hf) hb (by omega))
  go_enter Tryz.func95, Tryz.ntmps95
  go_wp2_with (first | (go_at_call 134; refine Hs.out.mono ?_; rintro e w' ⟨rfl, rfl⟩) | (go_at_call 135; refine Hc.out.mono ?_; rintro e w' ⟨v, rfl, hv, hf'⟩))
  go_ret
  exact ⟨v, rfl, hv.later hf.size, hf.trans' hf'⟩
end Go.Proofs.YtodkhoclbhdihaaGreatDoor

/-
  What package wire computes, as plain functions: fields, bounds, bytes. No memory and no program in it.
-/
namespace Go.Proofs.YtodkhoclbhdihaaGreatDoor

/-- An operation and a message, field by field. -/
structure GOp where
  kind : Int
  pos : Int
  ch : UInt8
  client : Int
  seq : Int
  deriving DecidableEq
structure GMsg where
  kind : Int
  epoch : Int
  client : Int
  have_ : Int
  first : Int
  num : Int
  ack : Int
  rev : Int
  tag : Int
  op : GOp
  deriving DecidableEq

abbrev V := Nat → Int
def flatL (m : GMsg) : List Int := [m.kind, m.epoch, m.client, m.have_, m.first, m.num, m.ack, m.rev, m.tag, m.op.kind, m.op.pos, (m.op.ch.toNat : Int), m.op.client, m.op.seq]
def flat (m : GMsg) : V := fun i => (flatL m).getD i 0
def opOf (v : V) : GOp := ⟨v 9, v 10, UInt8.ofNat (v 11).toNat, v 12, v 13⟩
def msgOf (k : Int) (v : V) : GMsg := ⟨k, v 1, v 2, v 3, v 4, v 5, v 6, v 7, v 8, opOf v⟩

def sz (f : Nat) : Nat := [1, 1, 1, 2, 1, 2, 2, 2, 2, 1, 2, 1, 1, 1].getD f 0
def shape (k : Nat) : List Nat :=
  match k with
  | 1 => [1, 2, 3, 4]
  | 2 => [1, 2, 5, 6, 8, 9, 10, 11, 12, 13]
  | 3 => [1, 2, 6]
  | 4 => [1, 2]
  | 5 => [1, 2, 5, 6, 7, 9, 10, 11, 12, 13]
  | 6 => [1, 2, 6]
  | _ => []

/-- The least and the greatest value of a field. -/
def loF (f : Nat) (v : V) (mk : Int) : Int :=
  match f with
  | 3 | 8 | 6 | 9 | 10 => 0
  | 11 => if v 9 = 1 then 32 else 0
  | 12 => if mk = 0 then 1 else mk
  | _ => 1
def hiF (f : Nat) (v : V) (mk : Int) : Int :=
  match f with
  | 1 => 255
  | 2 => 64
  | 3 | 8 | 5 | 6 | 7 => 4096
  | 4 => 65
  | 9 => 2
  | 10 => if v 9 = 0 then 0 else 4095
  | 11 => if v 9 = 1 then 126 else 0
  | 12 => if mk = 0 then 64 else mk
  | _ => 64
def mayB (f : Nat) (v : V) (mk : Int) : Bool := decide (loF f v mk ≤ v f) && decide (v f ≤ hiF f v mk)
def namedB (sh : List Nat) (f : Nat) : Bool := sh.contains f

/-- A field's bytes. -/
def fieldB (v : V) (f : Nat) : List UInt8 := if sz f = 2 then [lo8 ((v f).toNat / 256), lo8 (v f).toNat] else [lo8 (v f).toNat]
def layB (v : V) (sh : List Nat) : List UInt8 := lo8 (v 0).toNat :: (sh.map (fieldB v)).flatten

def badF (v : V) (sh : List Nat) (mk : Int) (f : Nat) : Bool := (namedB sh f && !mayB f v mk) || (!namedB sh f && decide (v f ≠ 0))
/-- The first field that may not be, from f on. -/
def firstBad (v : V) (sh : List Nat) (mk : Int) : Option Nat := (List.range' 1 13).find? (badF v sh mk)
/-- A message's datagram, or the error's number and place. -/
def encF (m : GMsg) : Except (Int × Int) (List UInt8) :=
  if m.kind < 1 ∨ 6 < m.kind then .error (61, 0)
  else match firstBad (flat m) (shape m.kind.toNat) (if m.kind = 2 then m.client else 0) with
    | some f => .error (63, (f : Int))
    | none => .ok (sealed (layB (flat m) (shape m.kind.toNat)))

def setV (v : V) (f : Nat) (x : Int) : V := fun i => if i = f then x else v i
/-- The number that stands at p, n bytes long. -/
def getN (xs : List UInt8) (p n : Nat) : Int := if n = 2 then (((xs[p]?).getD 0).toNat : Int) * 256 + (((xs[p + 1]?).getD 0).toNat : Int) else (((xs[p]?).getD 0).toNat : Int)
def lenF (sh : List Nat) : Nat := (sh.map sz).sum
def pickF (xs : List UInt8) (own : Bool) : List Nat → Nat → V → Except Nat V
  | [], _, v => .ok v
  | f :: sh, p, v =>
    if mayB f (setV v f (getN xs p (sz f))) (if own then (setV v f (getN xs p (sz f))) 2 else 0) then pickF xs own sh (p + sz f) (setV v f (getN xs p (sz f))) else .error p
/-- What a datagram's bytes without the sum say. -/
def bodyF (xs : List UInt8) : Except (Int × Int) GMsg :=
  match xs with
  | [] => .error (62, 0)
  | k :: _ =>
    if k.toNat < 1 ∨ 6 < k.toNat then .error (61, 0)
    else if xs.length ≠ 1 + lenF (shape k.toNat) then .error (62, (xs.length : Int))
    else match pickF xs (decide (k.toNat = 2)) (shape k.toNat) 1 (setV (fun _ => 0) 0 (k.toNat : Int)) with
      | .error p => .error (63, (p : Int))
      | .ok v => .ok (msgOf (k.toNat : Int) v)
/-- The message of a datagram, or the error's number and place. -/
def decF (b : List UInt8) : Except (Int × Int) GMsg :=
  if 64 < b.length then .error (60, 64)
  else if b.length < 4 then .error (62, (b.length : Int))
  else if b.drop (b.length - 4) = sum4 (crc (b.take (b.length - 4))) then bodyF (b.take (b.length - 4))
  else .error (64, ((b.length - 4 : Nat) : Int))
end Go.Proofs.YtodkhoclbhdihaaGreatDoor

/-
  Contracts of package api's errors: Wrap, and errors.As, errors.Is, Code, Place over what Wrap makes. (Package errors is walked whole, as the toy 'toyas' of the guide does it.)
-/
namespace Go.Proofs.YtodkhoclbhdihaaGreatDoor
open Go.RowKit Go.Extern.Stop Go.Stop Go.Extern

/-- The error that Wrap(at, code) makes: a pointer to a new Fault. -/
def errV (g : Nat) : Value := .iface 145 (.pointer (some ⟨g, 0, none⟩))
def faultCells (at_ code : Int) : Array Value := #[.int .i64 at_, .iface 35 (.int .i64 code)]
def Fault (w : World) (g : Nat) (at_ code : Int) : Prop := Blk w g 148 (faultCells at_ code)
theorem Fault.at_ {w : World} {g : Nat} {a c : Int} (h : Fault w g a c) : w.cell? ⟨g, 0, none⟩ = some (.int .i64 a) := Blk.cell h 0
theorem Fault.err {w : World} {g : Nat} {a c : Int} (h : Fault w g a c) : w.cell? ⟨g, 1, none⟩ = some (.iface 35 (.int .i64 c)) := Blk.cell h 1

theorem Fault.fr {w w' : World} {S : Nat → Prop} {g : Nat} {a c : Int} (h : Fault w g a c) (hb : Fr S w w') (hs : ¬ S g) : Fault w' g a c := Blk.fr h hb hs
theorem Fault.alloc {w : World} {g : Nat} {a c : Int} (h : Fault w g a c) (o : Obj) : Fault (w.alloc o) g a c := Blk.alloc h o

theorem wrap_any (a c : Int) (w : World) : Calls Tryz.prog 62 #[.int .i64 a, .int .i64 c] w fun e w' => e = .returned (errV w.heap.size) ∧ Fault w' w.heap.size a c ∧ w' = w.alloc (.cells (faultCells a c) 148) := by
  have hb : Fault (w.alloc (.cells (faultCells a c) 148)) w.heap.size a c := Blk.new w _ _
  unfold faultCells at *
  go_enter Tryz.func62, Tryz.ntmps62
  go_wp2
  go_ret
  exact ⟨rfl, hb, rfl⟩

theorem unwrap_any (g : Nat) (a c : Int) (w : World) (hF : Fault w g a c) : Calls Tryz.prog 190 #[.pointer (some ⟨g, 0, none⟩)] w fun e w' => e = .returned (.iface 35 (.int .i64 c)) ∧ w = w' := by
  have h0 := hF.err
  go_enter Tryz.func190, Tryz.ntmps190
  go_wp2
  go_ret
  exact ⟨rfl, rfl⟩

/-! ### errors.As: closed facts on the model's entries for internal/reflectlite at this program's types -/

theorem A.valueOfPF (t : Addr) (w : World) : (ReflectliteValue.unpack (.iface 146 (.pointer (some t)))).run Tryz.prog w
    = .ok (.agg #[.pointer (some ⟨4, 146, none⟩), .pointer (some ⟨w.heap.size, 0, none⟩), .int .u64 150]) (w.alloc (.cells #[.pointer (some t)] 146)) := by kernel_rfl
theorem A.typePF (a : Addr) (w : World) : (ReflectliteValue.methodAny (ReflectliteValue.valueError "reflectlite.Value.Type" 0) (fun t _ _ _ => ReflectliteType.toType t) #[.agg #[.pointer (some ⟨4, 146, none⟩), .pointer (some a), .int .u64 150]]).run Tryz.prog w
    = .ok (.iface 234 (.agg #[.pointer (some ⟨4, 146, none⟩)])) w := by kernel_rfl
theorem A.kindPF (w : World) : ((ReflectliteType.abiMethod fun t => (fun a : Nat => Value.int IntKind.u8 (a : Int)) <$> Rtype.kind t) #[.pointer (some ⟨4, 146, none⟩)]).run Tryz.prog w = .ok (.int .u8 22) w := by kernel_rfl
theorem A.kindF (w : World) : ((ReflectliteType.abiMethod fun t => (fun a : Nat => Value.int IntKind.u8 (a : Int)) <$> Rtype.kind t) #[.pointer (some ⟨4, 145, none⟩)]).run Tryz.prog w = .ok (.int .u8 22) w := by kernel_rfl
theorem A.partsPF (a : Addr) (w : World) : (ReflectliteValue.parts (.agg #[.pointer (some ⟨4, 146, none⟩), .pointer (some a), .int .u64 150])).run Tryz.prog w = .ok (some (146, a, 150)) w := by kernel_rfl
theorem A.elemPF (w : World) : (ReflectliteType.method ReflectliteType.elem #[.agg #[.pointer (some ⟨4, 146, none⟩)]]).run Tryz.prog w = .ok (.iface 234 (.agg #[.pointer (some ⟨4, 145, none⟩)])) w := by kernel_rfl
theorem A.implementsF (w : World) : (ReflectliteType.relation "Implements" ReflectliteType.implements_ #[.agg #[.pointer (some ⟨4, 145, none⟩)], .iface 234 (.agg #[.pointer (some ⟨4, 80, none⟩)])]).run Tryz.prog w = .ok (.bool true) w := by kernel_rfl
theorem A.typeOfF (v : Value) (w : World) : (ReflectliteType.typeOf #[.iface 145 v]).run Tryz.prog w = .ok (.iface 234 (.agg #[.pointer (some ⟨4, 145, none⟩)])) w := by kernel_rfl
theorem A.assignableF (w : World) : (ReflectliteType.relation "AssignableTo" ReflectliteType.assignableTo #[.agg #[.pointer (some ⟨4, 145, none⟩)], .iface 234 (.agg #[.pointer (some ⟨4, 145, none⟩)])]).run Tryz.prog w = .ok (.bool true) w := by kernel_rfl
theorem A.elemOfPF (w : World) : (Rtype.elem? 146).run Tryz.prog w = .ok (some 145) w := by kernel_rfl
theorem A.mkF (p : Addr) (w : World) : (ReflectliteValue.mk 145 p ReflectliteValue.flagAddr).run Tryz.prog w = .ok (.agg #[.pointer (some ⟨4, 145, none⟩), .pointer (some p), .int .u64 406]) w := by kernel_rfl
theorem A.partsAF (a : Addr) (w : World) : (ReflectliteValue.parts (.agg #[.pointer (some ⟨4, 145, none⟩), .pointer (some a), .int .u64 406])).run Tryz.prog w = .ok (some (145, a, 406)) w := by kernel_rfl
theorem A.partsF (a : Addr) (w : World) : (ReflectliteValue.parts (.agg #[.pointer (some ⟨4, 145, none⟩), .pointer (some a), .int .u64 150])).run Tryz.prog w = .ok (some (145, a, 150)) w := by kernel_rfl
theorem A.directF (w : World) : (Rtype.directlyAssignable 145 145).run Tryz.prog w = .ok true w := by kernel_rfl

theorem A.valueOfPE (t : Addr) (w : World) : (ReflectliteValue.unpack (.iface 144 (.pointer (some t)))).run Tryz.prog w
    = .ok (.agg #[.pointer (some ⟨4, 144, none⟩), .pointer (some ⟨w.heap.size, 0, none⟩), .int .u64 150]) (w.alloc (.cells #[.pointer (some t)] 144)) := by kernel_rfl
theorem A.typePE (a : Addr) (w : World) : (ReflectliteValue.methodAny (ReflectliteValue.valueError "reflectlite.Value.Type" 0) (fun t _ _ _ => ReflectliteType.toType t) #[.agg #[.pointer (some ⟨4, 144, none⟩), .pointer (some a), .int .u64 150]]).run Tryz.prog w
    = .ok (.iface 234 (.agg #[.pointer (some ⟨4, 144, none⟩)])) w := by kernel_rfl
theorem A.kindPE (w : World) : ((ReflectliteType.abiMethod fun t => (fun a : Nat => Value.int IntKind.u8 (a : Int)) <$> Rtype.kind t) #[.pointer (some ⟨4, 144, none⟩)]).run Tryz.prog w = .ok (.int .u8 22) w := by kernel_rfl
theorem A.kindE (w : World) : ((ReflectliteType.abiMethod fun t => (fun a : Nat => Value.int IntKind.u8 (a : Int)) <$> Rtype.kind t) #[.pointer (some ⟨4, 35, none⟩)]).run Tryz.prog w = .ok (.int .u8 2) w := by kernel_rfl
theorem A.partsPE (a : Addr) (w : World) : (ReflectliteValue.parts (.agg #[.pointer (some ⟨4, 144, none⟩), .pointer (some a), .int .u64 150])).run Tryz.prog w = .ok (some (144, a, 150)) w := by kernel_rfl
theorem A.elemPE (w : World) : (ReflectliteType.method ReflectliteType.elem #[.agg #[.pointer (some ⟨4, 144, none⟩)]]).run Tryz.prog w = .ok (.iface 234 (.agg #[.pointer (some ⟨4, 35, none⟩)])) w := by kernel_rfl
theorem A.implementsE (w : World) : (ReflectliteType.relation "Implements" ReflectliteType.implements_ #[.agg #[.pointer (some ⟨4, 35, none⟩)], .iface 234 (.agg #[.pointer (some ⟨4, 80, none⟩)])]).run Tryz.prog w = .ok (.bool true) w := by kernel_rfl
theorem A.typeOfE (v : Value) (w : World) : (ReflectliteType.typeOf #[.iface 35 v]).run Tryz.prog w = .ok (.iface 234 (.agg #[.pointer (some ⟨4, 35, none⟩)])) w := by kernel_rfl
theorem A.assignableE (w : World) : (ReflectliteType.relation "AssignableTo" ReflectliteType.assignableTo #[.agg #[.pointer (some ⟨4, 35, none⟩)], .iface 234 (.agg #[.pointer (some ⟨4, 35, none⟩)])]).run Tryz.prog w = .ok (.bool true) w := by kernel_rfl
theorem A.elemOfPE (w : World) : (Rtype.elem? 144).run Tryz.prog w = .ok (some 35) w := by kernel_rfl
theorem A.mkE (p : Addr) (w : World) : (ReflectliteValue.mk 35 p ReflectliteValue.flagAddr).run Tryz.prog w = .ok (.agg #[.pointer (some ⟨4, 35, none⟩), .pointer (some p), .int .u64 386]) w := by kernel_rfl
theorem A.partsAE (a : Addr) (w : World) : (ReflectliteValue.parts (.agg #[.pointer (some ⟨4, 35, none⟩), .pointer (some a), .int .u64 386])).run Tryz.prog w = .ok (some (35, a, 386)) w := by kernel_rfl
theorem A.partsE (a : Addr) (w : World) : (ReflectliteValue.parts (.agg #[.pointer (some ⟨4, 35, none⟩), .pointer (some a), .int .u64 130])).run Tryz.prog w = .ok (some (35, a, 130)) w := by kernel_rfl
theorem A.directE (w : World) : (Rtype.directlyAssignable 35 35).run Tryz.prog w = .ok true w := by kernel_rfl

theorem A.valueOfF (e : Addr) (w : World) : (ReflectliteValue.unpack (.iface 145 (.pointer (some e)))).run Tryz.prog w
    = .ok (.agg #[.pointer (some ⟨4, 145, none⟩), .pointer (some ⟨w.heap.size, 0, none⟩), .int .u64 150]) (w.alloc (.cells #[.pointer (some e)] 145)) := by kernel_rfl
theorem A.valueOfE (c : Int) (w : World) : (ReflectliteValue.unpack (.iface 35 (.int .i64 c))).run Tryz.prog w
    = .ok (.agg #[.pointer (some ⟨4, 35, none⟩), .pointer (some ⟨w.heap.size, 0, none⟩), .int .u64 130]) (w.alloc (.cells #[.int .i64 c] 35)) := by kernel_rfl
theorem A.assignableFE (w : World) : (ReflectliteType.relation "AssignableTo" ReflectliteType.assignableTo #[.agg #[.pointer (some ⟨4, 145, none⟩)], .iface 234 (.agg #[.pointer (some ⟨4, 35, none⟩)])]).run Tryz.prog w = .ok (.bool false) w := by kernel_rfl

end Go.Proofs.YtodkhoclbhdihaaGreatDoor

/-
  Contracts of errors.As over the errors that Wrap makes: at a *Fault target, and at an Errno target.
-/
namespace Go.Proofs.YtodkhoclbhdihaaGreatDoor
open Go.RowKit Go.Extern.Stop Go.Stop Go.Extern

/-- The variable errors.errorType holds the handle of the type 'error'. -/
def ErrT (w : World) : Prop := w.cell? ⟨2, 0, none⟩ = some (.iface 234 (.agg #[.pointer (some ⟨4, 80, none⟩)]))

theorem rlm (z : Sem Value) (f : TypeId → Addr → Nat → Nat → Sem Value) (v : Value) :
    ReflectliteValue.method z f #[v] = (do match ← ReflectliteValue.parts v with | none => z | some (t, a, fl) => f t a fl (fl % 32)) := rfl
theorem rls (v x : Value) : ReflectliteValue.set #[v, x] = (do
    let (some (dst, a, fl), some (src, b, _)) := (← ReflectliteValue.parts v, ← ReflectliteValue.parts x)
      | unsupported (.noEntry "extern/(internal/reflectlite.Value).Set.zeroValue")
    if fl / ReflectliteValue.flagAddr % 2 == 0 then unsupported (.noEntry "extern/(internal/reflectlite.Value).Set.unaddressable")
    let val ← loadVar src b
    if ← Rtype.directlyAssignable dst src then storeVar dst a val
    else if ← Rtype.implements dst src then
      if (← Rtype.kind src) == 20 then
        match val with
        | .nilIface => unsupported (.noEntry "extern/reflectlite: a nil value of one interface type handed on as a value of another")
        | _ => storeVar dst a val
      else storeVar dst a (.iface src val)
    else panicString ("reflectlite.Set: value of type " ++ (← Rtype.spelt src) ++ " is not assignable to type " ++ (← Rtype.spelt dst))
    pure (.tuple #[])) := rfl

theorem A.isNilPF (a p : Addr) (W : World) (ha : W.cell? a = some (.pointer (some p))) :
    (ReflectliteValue.method (ReflectliteValue.valueError "reflectlite.Value.IsNil" 0) ReflectliteValue.isNil #[.agg #[.pointer (some ⟨4, 146, none⟩), .pointer (some a), .int .u64 150]]).run Tryz.prog W = .ok (.bool false) W := by
  rw [rlm]
  simp only [Sem.run_bind, A.partsPF, Result.andThen]
  simp [ReflectliteValue.isNil, loadVar, isAgg, underlying, Tryz.underlying146, ha, Result.andThen]
theorem A.elemVF (a p : Addr) (W : World) (ha : W.cell? a = some (.pointer (some p))) :
    (ReflectliteValue.method (ReflectliteValue.valueError "reflectlite.Value.Elem" 0) ReflectliteValue.elem #[.agg #[.pointer (some ⟨4, 146, none⟩), .pointer (some a), .int .u64 150]]).run Tryz.prog W
      = .ok (.agg #[.pointer (some ⟨4, 145, none⟩), .pointer (some p), .int .u64 406]) W := by
  rw [rlm]
  simp only [Sem.run_bind, A.partsPF, Result.andThen]
  simp [ReflectliteValue.elem, loadVar, isAgg, underlying, Tryz.underlying146, ha, Result.andThen, A.elemOfPF, A.mkF]
theorem A.setF (ta b : Addr) (v old : Value) (hv : v.cells = #[v]) (h1 : v.oneCell' = true) (W : World) (hb : W.cell? b = some v) (ht : W.cell? ta = some old) (hf : W.frozen? ta = false) :
    (ReflectliteValue.set #[.agg #[.pointer (some ⟨4, 145, none⟩), .pointer (some ta), .int .u64 406], .agg #[.pointer (some ⟨4, 145, none⟩), .pointer (some b), .int .u64 150]]).run Tryz.prog W
      = .ok (.tuple #[]) (W.setCell ta v) := by
  rw [rls]
  simp only [Sem.run_bind, A.partsAF, A.partsF, Result.andThen]
  simp [ReflectliteValue.flagAddr, loadVar, isAgg, underlying, Tryz.underlying145, hb, Result.andThen, A.directF, storeVar, hv, storeCells, Addr.add]
  rw [run_store Tryz.prog W ta _ _ h1]
  simp [ht, hf]

theorem A.isNilPE (a p : Addr) (W : World) (ha : W.cell? a = some (.pointer (some p))) :
    (ReflectliteValue.method (ReflectliteValue.valueError "reflectlite.Value.IsNil" 0) ReflectliteValue.isNil #[.agg #[.pointer (some ⟨4, 144, none⟩), .pointer (some a), .int .u64 150]]).run Tryz.prog W = .ok (.bool false) W := by
  rw [rlm]
  simp only [Sem.run_bind, A.partsPE, Result.andThen]
  simp [ReflectliteValue.isNil, loadVar, isAgg, underlying, Tryz.underlying144, ha, Result.andThen]
theorem A.elemVE (a p : Addr) (W : World) (ha : W.cell? a = some (.pointer (some p))) :
    (ReflectliteValue.method (ReflectliteValue.valueError "reflectlite.Value.Elem" 0) ReflectliteValue.elem #[.agg #[.pointer (some ⟨4, 144, none⟩), .pointer (some a), .int .u64 150]]).run Tryz.prog W
      = .ok (.agg #[.pointer (some ⟨4, 35, none⟩), .pointer (some p), .int .u64 386]) W := by
  rw [rlm]
  simp only [Sem.run_bind, A.partsPE, Result.andThen]
  simp [ReflectliteValue.elem, loadVar, isAgg, underlying, Tryz.underlying144, ha, Result.andThen, A.elemOfPE, A.mkE]
theorem A.setE (ta b : Addr) (v old : Value) (hv : v.cells = #[v]) (h1 : v.oneCell' = true) (W : World) (hb : W.cell? b = some v) (ht : W.cell? ta = some old) (hf : W.frozen? ta = false) :
    (ReflectliteValue.set #[.agg #[.pointer (some ⟨4, 35, none⟩), .pointer (some ta), .int .u64 386], .agg #[.pointer (some ⟨4, 35, none⟩), .pointer (some b), .int .u64 130]]).run Tryz.prog W
      = .ok (.tuple #[]) (W.setCell ta v) := by
  rw [rls]
  simp only [Sem.run_bind, A.partsAE, A.partsE, Result.andThen]
  simp [ReflectliteValue.flagAddr, loadVar, isAgg, underlying, Tryz.underlying35, hb, Result.andThen, A.directE, storeVar, hv, storeCells, Addr.add]
  rw [run_store Tryz.prog W ta _ _ h1]
  simp [ht, hf]

end Go.Proofs.YtodkhoclbhdihaaGreatDoor

/-
  Contracts of errors.As and errors.Is over the errors that Wrap makes: the walks.
-/
namespace Go.Proofs.YtodkhoclbhdihaaGreatDoor
open Go.RowKit Go.Extern.Stop Go.Stop Go.Extern

theorem A.methodKind (h : Value) (w : World) : (Go.method 400 234 (.agg #[h]) "Kind").run Tryz.prog w = .ok (185, h) w := by kernel_rfl
theorem A.methodElem (h : Value) (w : World) : (Go.method 400 234 (.agg #[h]) "Elem").run Tryz.prog w = .ok (197, .agg #[h]) w := by kernel_rfl
theorem A.methodImplements (h : Value) (w : World) : (Go.method 400 234 (.agg #[h]) "Implements").run Tryz.prog w = .ok (198, .agg #[h]) w := by kernel_rfl
theorem A.methodAssignableTo (h : Value) (w : World) : (Go.method 400 234 (.agg #[h]) "AssignableTo").run Tryz.prog w = .ok (195, .agg #[h]) w := by kernel_rfl
theorem A.methodUnwrap (g : Addr) (w : World) : (Go.method 400 145 (.pointer (some g)) "Unwrap").run Tryz.prog w = .ok (190, .pointer (some g)) w := by kernel_rfl


theorem as_nil (t : Value) (w : World) : Calls Tryz.prog 74 #[.nilIface, t] w fun e w' => e = .returned (.bool false) ∧ w = w' := by
  go_enter Tryz.func74, Tryz.ntmps74
  go_wp2
  go_ret
  exact ⟨rfl, rfl⟩


set_option maxHeartbeats 4000000 in
theorem as_fault0 (e t : Addr) (old : Value) (w : World) (hg : ErrT w) (ht0 : w.cell? t = some old) (hf0 : w.frozen? t = false) :
    Calls Tryz.prog 74 #[.iface 145 (.pointer (some e)), .iface 146 (.pointer (some t))] w fun ev w' => ev = .returned (.bool true) ∧ w' = ((((w.alloc (.cells #[.pointer (some t)] 146)).alloc (.cells #[.pointer (some ⟨4, 146, none⟩), .pointer (some ⟨w.heap.size, 0, none⟩), .int .u64 150] 189)).alloc (.cells #[.pointer (some ⟨4, 146, none⟩), .pointer (some ⟨w.heap.size, 0, none⟩), .int .u64 150] 189)).alloc (.cells #[.pointer (some e)] 145)).setCell t (.pointer (some e)) := by
  have hVO := @run_callFunc_extern Tryz.prog 104 _ (fun args => ReflectliteValue.unpack (args.getD 0 (.tuple #[]))) Tryz.func104 (by kernel_rfl) (by kernel_rfl) (by kernel_rfl) (by kernel_rfl)
  have hTy := @run_callFunc_extern Tryz.prog 105 _ (ReflectliteValue.methodAny (ReflectliteValue.valueError "reflectlite.Value.Type" 0) (fun t _ _ _ => ReflectliteType.toType t)) Tryz.func105 (by kernel_rfl) (by kernel_rfl) (by kernel_rfl) (by kernel_rfl)
  have hIN := @run_callFunc_extern Tryz.prog 106 _ (ReflectliteValue.method (ReflectliteValue.valueError "reflectlite.Value.IsNil" 0) ReflectliteValue.isNil) Tryz.func106 (by kernel_rfl) (by kernel_rfl) (by kernel_rfl) (by kernel_rfl)
  have hKd := @run_callFunc_extern Tryz.prog 185 _ (ReflectliteType.abiMethod fun t => do pure (.int .u8 (← Rtype.kind t))) Tryz.func185 (by kernel_rfl) (by kernel_rfl) (by kernel_rfl) (by kernel_rfl)
  have hEl := @run_callFunc_extern Tryz.prog 197 _ (ReflectliteType.method ReflectliteType.elem) Tryz.func197 (by kernel_rfl) (by kernel_rfl) (by kernel_rfl) (by kernel_rfl)
  have hIm := @run_callFunc_extern Tryz.prog 198 _ (ReflectliteType.relation "Implements" ReflectliteType.implements_) Tryz.func198 (by kernel_rfl) (by kernel_rfl) (by kernel_rfl) (by kernel_rfl)
  have hTO := @run_callFunc_extern Tryz.prog 138 _ ReflectliteType.typeOf Tryz.func138 (by kernel_rfl) (by kernel_rfl) (by kernel_rfl) (by kernel_rfl)
  have hAs := @run_callFunc_extern Tryz.prog 195 _ (ReflectliteType.relation "AssignableTo" ReflectliteType.assignableTo) Tryz.func195 (by kernel_rfl) (by kernel_rfl) (by kernel_rfl) (by kernel_rfl)
  have hEV := @run_callFunc_extern Tryz.prog 141 _ (ReflectliteValue.method (ReflectliteValue.valueError "reflectlite.Value.Elem" 0) ReflectliteValue.elem) Tryz.func141 (by kernel_rfl) (by kernel_rfl) (by kernel_rfl) (by kernel_rfl)
  have hSt := @run_callFunc_extern Tryz.prog 142 _ ReflectliteValue.set Tryz.func142 (by kernel_rfl) (by kernel_rfl) (by kernel_rfl) (by kernel_rfl)
  have valueOfPF := A.valueOfPF
  have typePF := A.typePF
  have kindPF := A.kindPF
  have kindF := A.kindF
  have elemPF := A.elemPF
  have implementsF := A.implementsF
  have typeOfF := A.typeOfF
  have assignableF := A.assignableF
  have methodKind := A.methodKind
  have methodElem := A.methodElem
  have methodImplements := A.methodImplements
  have methodAssignableTo := A.methodAssignableTo
  have vF := A.valueOfF
  unfold ErrT at hg
  have hlt : 2 < w.heap.size := lt_of_cell hg
  have htl : t.block < w.heap.size := lt_of_cell ht0
  have n8 := A.isNilPF ⟨w.heap.size, 0, none⟩ t ((w.alloc (.cells #[.pointer (some t)] 146)).alloc (.cells #[.pointer (some ⟨4, 146, none⟩), .pointer (some ⟨w.heap.size, 0, none⟩), .int .u64 150] 189)) (by simp)
  have hg2 : ((w.alloc (.cells #[.pointer (some t)] 146)).alloc (.cells #[.pointer (some ⟨4, 146, none⟩), .pointer (some ⟨w.heap.size, 0, none⟩), .int .u64 150] 189)).cell? ⟨2, 0, none⟩ = some (.iface 234 (.agg #[.pointer (some ⟨4, 80, none⟩)])) := by
    rw [World.cell?_alloc_lt _ _ ⟨2, 0, none⟩ (by simp; omega), World.cell?_alloc_lt _ _ ⟨2, 0, none⟩ hlt]; exact hg
  have el := A.elemVF ⟨w.heap.size, 0, none⟩ t (((w.alloc (.cells #[.pointer (some t)] 146)).alloc (.cells #[.pointer (some ⟨4, 146, none⟩), .pointer (some ⟨w.heap.size, 0, none⟩), .int .u64 150] 189)).alloc (.cells #[.pointer (some ⟨4, 146, none⟩), .pointer (some ⟨w.heap.size, 0, none⟩), .int .u64 150] 189)) (by rw [World.cell?_alloc_lt _ _ ⟨w.heap.size, 0, none⟩ (by simp; omega)]; simp)
  have st := A.setF t ⟨w.heap.size + 1 + 1 + 1, 0, none⟩ (.pointer (some e)) old rfl rfl ((((w.alloc (.cells #[.pointer (some t)] 146)).alloc (.cells #[.pointer (some ⟨4, 146, none⟩), .pointer (some ⟨w.heap.size, 0, none⟩), .int .u64 150] 189)).alloc (.cells #[.pointer (some ⟨4, 146, none⟩), .pointer (some ⟨w.heap.size, 0, none⟩), .int .u64 150] 189)).alloc (.cells #[.pointer (some e)] 145))
    (by rw [World.cell?_alloc_at _ _ _ _ (by simp)]; rfl)
    (by rw [World.cell?_alloc_lt _ _ t (by simp; omega), World.cell?_alloc_lt _ _ t (by simp; omega), World.cell?_alloc_lt _ _ t (by simp; omega), World.cell?_alloc_lt _ _ t htl]; exact ht0)
    (by rw [World.frozen?_alloc_old _ _ t (by simp; omega), World.frozen?_alloc_old _ _ t (by simp; omega), World.frozen?_alloc_old _ _ t (by simp; omega), World.frozen?_alloc_old _ _ t (Nat.ne_of_lt htl)]; exact hf0)
  go_enter Tryz.func74, Tryz.ntmps74
  go_wp2
  refine wp_loop_rounds 1 ?_
  rw [rounds_succ]
  go_wp2
  go_ret
  exact ⟨rfl, rfl⟩

theorem A.noAs (e : Addr) (w : World) : (Instr.typeAssert (.iface 145 (.pointer (some e))) 80 238 true).run Tryz.prog w = .ok (.tuple #[.nilIface, .bool false]) w := run_typeAssert_lacksB Tryz.underlying238 (by kernel_rfl) (by kernel_rfl) _ _ w
theorem A.hasUnwrap (e : Addr) (w : World) : (Instr.typeAssert (.iface 145 (.pointer (some e))) 80 241 true).run Tryz.prog w = .ok (.tuple #[.iface 145 (.pointer (some e)), .bool true]) w := by kernel_rfl
theorem A.noIs (e : Addr) (w : World) : (Instr.typeAssert (.iface 145 (.pointer (some e))) 80 262 true).run Tryz.prog w = .ok (.tuple #[.nilIface, .bool false]) w := run_typeAssert_lacksB Tryz.underlying262 (by kernel_rfl) (by kernel_rfl) _ _ w
theorem A.noIsE (e : Int) (w : World) : (Instr.typeAssert (.iface 35 (.int .i64 e)) 80 262 true).run Tryz.prog w = .ok (.tuple #[.nilIface, .bool false]) w := run_typeAssert_lacksB Tryz.underlying262 (by kernel_rfl) (by kernel_rfl) _ _ w
theorem A.noUnwrapE (e : Int) (w : World) : (Instr.typeAssert (.iface 35 (.int .i64 e)) 80 241 true).run Tryz.prog w = .ok (.tuple #[.nilIface, .bool false]) w := run_typeAssert_lacksB Tryz.underlying241 (by kernel_rfl) (by kernel_rfl) _ _ w
theorem A.noUnwrapsE (e : Int) (w : World) : (Instr.typeAssert (.iface 35 (.int .i64 e)) 80 243 true).run Tryz.prog w = .ok (.tuple #[.nilIface, .bool false]) w := run_typeAssert_lacksB Tryz.underlying243 (by kernel_rfl) (by kernel_rfl) _ _ w
theorem A.methodComparable (h : Value) (w : World) : (Go.method 400 234 (.agg #[h]) "Comparable").run Tryz.prog w = .ok (196, .agg #[h]) w := by kernel_rfl


set_option maxHeartbeats 4000000 in
theorem as_errno0 (g : Nat) (a c : Int) (t : Addr) (old : Value) (w : World) (hg : ErrT w) (hF : Fault w g a c) (ht0 : w.cell? t = some old) (hf0 : w.frozen? t = false) :
    Calls Tryz.prog 74 #[errV g, .iface 144 (.pointer (some t))] w fun ev w' => ev = .returned (.bool true) ∧ w' = ((((w.alloc (.cells #[.pointer (some t)] 144)).alloc (.cells #[.pointer (some ⟨4, 144, none⟩), .pointer (some ⟨w.heap.size, 0, none⟩), .int .u64 150] 189)).alloc (.cells #[.pointer (some ⟨4, 144, none⟩), .pointer (some ⟨w.heap.size, 0, none⟩), .int .u64 150] 189)).alloc (.cells #[.int .i64 c] 35)).setCell t (.int .i64 c) := by
  have hVO := @run_callFunc_extern Tryz.prog 104 _ (fun args => ReflectliteValue.unpack (args.getD 0 (.tuple #[]))) Tryz.func104 (by kernel_rfl) (by kernel_rfl) (by kernel_rfl) (by kernel_rfl)
  have hTy := @run_callFunc_extern Tryz.prog 105 _ (ReflectliteValue.methodAny (ReflectliteValue.valueError "reflectlite.Value.Type" 0) (fun t _ _ _ => ReflectliteType.toType t)) Tryz.func105 (by kernel_rfl) (by kernel_rfl) (by kernel_rfl) (by kernel_rfl)
  have hIN := @run_callFunc_extern Tryz.prog 106 _ (ReflectliteValue.method (ReflectliteValue.valueError "reflectlite.Value.IsNil" 0) ReflectliteValue.isNil) Tryz.func106 (by kernel_rfl) (by kernel_rfl) (by kernel_rfl) (by kernel_rfl)
  have hKd := @run_callFunc_extern Tryz.prog 185 _ (ReflectliteType.abiMethod fun t => do pure (.int .u8 (← Rtype.kind t))) Tryz.func185 (by kernel_rfl) (by kernel_rfl) (by kernel_rfl) (by kernel_rfl)
  have hEl := @run_callFunc_extern Tryz.prog 197 _ (ReflectliteType.method ReflectliteType.elem) Tryz.func197 (by kernel_rfl) (by kernel_rfl) (by kernel_rfl) (by kernel_rfl)
  have hIm := @run_callFunc_extern Tryz.prog 198 _ (ReflectliteType.relation "Implements" ReflectliteType.implements_) Tryz.func198 (by kernel_rfl) (by kernel_rfl) (by kernel_rfl) (by kernel_rfl)
  have hTO := @run_callFunc_extern Tryz.prog 138 _ ReflectliteType.typeOf Tryz.func138 (by kernel_rfl) (by kernel_rfl) (by kernel_rfl) (by kernel_rfl)
  have hAs := @run_callFunc_extern Tryz.prog 195 _ (ReflectliteType.relation "AssignableTo" ReflectliteType.assignableTo) Tryz.func195 (by kernel_rfl) (by kernel_rfl) (by kernel_rfl) (by kernel_rfl)
  have hEV := @run_callFunc_extern Tryz.prog 141 _ (ReflectliteValue.method (ReflectliteValue.valueError "reflectlite.Value.Elem" 0) ReflectliteValue.elem) Tryz.func141 (by kernel_rfl) (by kernel_rfl) (by kernel_rfl) (by kernel_rfl)
  have hSt := @run_callFunc_extern Tryz.prog 142 _ ReflectliteValue.set Tryz.func142 (by kernel_rfl) (by kernel_rfl) (by kernel_rfl) (by kernel_rfl)
  have valueOfPE := A.valueOfPE
  have typePE := A.typePE
  have kindPE := A.kindPE
  have kindE := A.kindE
  have elemPE := A.elemPE
  have implementsE := A.implementsE
  have typeOfE := A.typeOfE
  have assignableE := A.assignableE
  have methodKind := A.methodKind
  have methodElem := A.methodElem
  have methodImplements := A.methodImplements
  have methodAssignableTo := A.methodAssignableTo
  have vE := A.valueOfE
  have tF := A.typeOfF
  have aFE := A.assignableFE
  have nA := A.noAs ⟨g, 0, none⟩
  have hU := A.hasUnwrap ⟨g, 0, none⟩
  have mU := A.methodUnwrap ⟨g, 0, none⟩
  have Hu := Lib.hid (unwrap_any g a c _ (((Fault.fr hF ((Fr.refl None' w).alloc _) (fun h => h)).alloc _).alloc _ : Fault (((w.alloc (.cells #[.pointer (some t)] 144)).alloc (.cells #[.pointer (some ⟨4, 144, none⟩), .pointer (some ⟨w.heap.size, 0, none⟩), .int .u64 150] 189)).alloc (.cells #[.pointer (some ⟨4, 144, none⟩), .pointer (some ⟨w.heap.size, 0, none⟩), .int .u64 150] 189)) g a c))
  unfold ErrT at hg
  have hlt : 2 < w.heap.size := lt_of_cell hg
  have htl : t.block < w.heap.size := lt_of_cell ht0
  have n8 := A.isNilPE ⟨w.heap.size, 0, none⟩ t ((w.alloc (.cells #[.pointer (some t)] 144)).alloc (.cells #[.pointer (some ⟨4, 144, none⟩), .pointer (some ⟨w.heap.size, 0, none⟩), .int .u64 150] 189)) (by simp)
  have hg2 : ((w.alloc (.cells #[.pointer (some t)] 144)).alloc (.cells #[.pointer (some ⟨4, 144, none⟩), .pointer (some ⟨w.heap.size, 0, none⟩), .int .u64 150] 189)).cell? ⟨2, 0, none⟩ = some (.iface 234 (.agg #[.pointer (some ⟨4, 80, none⟩)])) := by
    rw [World.cell?_alloc_lt _ _ ⟨2, 0, none⟩ (by simp; omega), World.cell?_alloc_lt _ _ ⟨2, 0, none⟩ hlt]; exact hg
  have el := A.elemVE ⟨w.heap.size, 0, none⟩ t (((w.alloc (.cells #[.pointer (some t)] 144)).alloc (.cells #[.pointer (some ⟨4, 144, none⟩), .pointer (some ⟨w.heap.size, 0, none⟩), .int .u64 150] 189)).alloc (.cells #[.pointer (some ⟨4, 144, none⟩), .pointer (some ⟨w.heap.size, 0, none⟩), .int .u64 150] 189)) (by rw [World.cell?_alloc_lt _ _ ⟨w.heap.size, 0, none⟩ (by simp; omega)]; simp)
  have st := A.setE t ⟨w.heap.size + 1 + 1 + 1, 0, none⟩ (.int .i64 c) old rfl rfl ((((w.alloc (.cells #[.pointer (some t)] 144)).alloc (.cells #[.pointer (some ⟨4, 144, none⟩), .pointer (some ⟨w.heap.size, 0, none⟩), .int .u64 150] 189)).alloc (.cells #[.pointer (some ⟨4, 144, none⟩), .pointer (some ⟨w.heap.size, 0, none⟩), .int .u64 150] 189)).alloc (.cells #[.int .i64 c] 35))
    (by rw [World.cell?_alloc_at _ _ _ _ (by simp)]; rfl)
    (by rw [World.cell?_alloc_lt _ _ t (by simp; omega), World.cell?_alloc_lt _ _ t (by simp; omega), World.cell?_alloc_lt _ _ t (by simp; omega), World.cell?_alloc_lt _ _ t htl]; exact ht0)
    (by rw [World.frozen?_alloc_old _ _ t (by simp; omega), World.frozen?_alloc_old _ _ t (by simp; omega), World.frozen?_alloc_old _ _ t (by simp; omega), World.frozen?_alloc_old _ _ t (Nat.ne_of_lt htl)]; exact hf0)
  clear hF hf0 ht0 hg
  unfold errV
  go_enter Tryz.func74, Tryz.ntmps74
  go_wp2
  refine wp_loop_rounds 2 ?_
  rw [rounds_succ]
  go_wp2_with (first | (go_at_call 190; refine Hu.out.mono ?_; rintro e1 w1 ⟨rfl, rfl⟩) | go_in)
  rw [rounds_succ]
  go_wp2
  go_ret
  exact ⟨rfl, rfl⟩

end Go.Proofs.YtodkhoclbhdihaaGreatDoor
