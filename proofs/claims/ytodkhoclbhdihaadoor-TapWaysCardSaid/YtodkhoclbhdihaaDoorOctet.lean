/-
  Contracts of package octet: bytes put together, the sum, the sealed bytes, the reader.
-/
import Derived.Test.YtodkhoclbhdihaaDoorRows
import Derived.Test.YtodkhoclbhdihaaDoorBase
namespace Go.Proofs.YtodkhoclbhdihaaDoor
open Go.RowKit

theorem u8_info : (Tryd.prog.info? 5).map (fun i => (i.zero, i.size, i.bytes)) = some (some (.int .u8 0), 1, 1) := by kernel_rfl
theorem u8_size : (Tryd.prog.info? 5).map (·.size) = some 1 := by kernel_rfl

/-- A new block of bytes, and the slice that is just it. -/
def NewB (w w' : World) (v : Value) (l : List UInt8) : Prop :=
  ∃ g, w.heap.size ≤ g ∧ v = .slice (some ⟨g, 0, none⟩) l.length l.length ∧ Blk w' g 5 (l.map bv).toArray

def zeros (n : Nat) : List Value := List.replicate n (.int .u8 0)
theorem zeros_len (n : Nat) : (zeros n).length = n := List.length_replicate
theorem made_zeros (n : Nat) : madeCells #[.int .u8 0] n = (zeros n).toArray := by
  apply Array.ext
  · simp [size_madeCells, zeros]
  · intro i h1 h2
    simp [madeCells, zeros, Nat.mod_one]
theorem run_mk (w : World) (n : Nat) (N : Int) (hN : N = n) (h : n ≤ 281474976710656) :
    (Instr.makeSlice 31 (.int .i64 N) (.int .i64 N)).run Tryd.prog w = .ok (.slice (some ⟨w.heap.size, 0, none⟩) n n) (w.alloc (.cells (zeros n).toArray 5)) := by
  subst hN
  have h := run_make_row' 31 5 (.int .u8 0) 1 Tryd.underlying31 u8_info rfl .i64 .i64 n (by omega) (by omega) w
  rw [h, made_zeros]

theorem alloc_setRow (w : World) (t : TypeId) (cs cs' : Array Value) : (w.alloc (.cells cs t)).setRow w.heap.size cs' = w.alloc (.cells cs' t) := by
  have h : (w.heap.push (.cells cs t)).modify w.heap.size (fun | .cells _ elem frozen => .cells cs' elem frozen | o => o) = w.heap.push (.cells cs' t) := by
    apply Array.ext_getElem?
    intro i
    rw [Array.getElem?_modify, Array.getElem?_push, Array.getElem?_push]
    by_cases h : w.heap.size = i
    · subst h; simp
    · rw [if_neg h, if_neg (fun e => h e.symm), if_neg (fun e => h e.symm)]
  show World.mk _ _ _ _ _ = World.mk _ _ _ _ _
  congr 1

/-- copy into a block that was just made. -/
theorem run_copy_new (w : World) (ty : TypeId) (off dl dc n c : Nat) (A : Option Addr) (cur xs : List Value) (hr : Reads w 1 A n xs) (h1 : ∀ v ∈ xs, v.oneCell' = true)
    (hn : n ≤ dl) (hfit : off + n ≤ cur.length) :
    (Builtin.copy_ #[31, 31] ty #[.slice (some ⟨w.heap.size, off, none⟩) dl dc, .slice A n c]).run Tryd.prog (w.alloc (.cells cur.toArray 5)) =
      .ok (.int .i64 (n : Int)) (w.alloc (.cells (splice cur off xs).toArray 5)) := by
  by_cases h0 : n = 0
  · subst h0
    have hx : xs = [] := List.eq_nil_of_length_eq_zero (by have := hr.len1; omega)
    subst hx
    rw [run_copy_none (P := Tryd.prog) _ 31 31 ty 5 _ _ _ _ _ _ Tryd.underlying31 u8_size (by simp)]
    simp [splice, goInt]
  · obtain ⟨b, o, rfl, hb, hc⟩ := hr.2 (by omega)
    have hl := hr.len1
    rw [run_copy_row (P := Tryd.prog) _ 31 31 ty 5 w.heap.size off dl dc ⟨b, o, none⟩ n c cur.toArray 5 xs Tryd.underlying31 u8_size (heap_alloc_new w _) (by rw [hl]; exact (Nat.min_eq_left hn).symm) ?_ (by simp; omega) h1]
    · rw [alloc_setRow, hl]
      simp [splice, goInt, hl]
    · intro j v hv
      rw [Addr.add]
      have hj := hc j v hv
      have hlt : (⟨b, o + j, none⟩ : Addr).block < w.heap.size := hb
      have := World.cell?_alloc_lt w (.cells cur.toArray 5) ⟨b, o + j, none⟩ hlt
      split
      · rename_i h0; subst h0; simpa using this.trans hj
      · exact this.trans hj

theorem splice_all (xs : List Value) (n m : Nat) (h : xs.length = n) : splice (zeros (n + m)) 0 xs = xs ++ zeros m := by
  simp [splice, zeros, h]
theorem splice_end (xs ys : List Value) (n m : Nat) (h : xs.length = n) (h' : ys.length = m) : splice (xs ++ zeros m) n ys = xs ++ ys := by
  subst h h'
  simp [splice, zeros]

theorem with_any (A B : Option Addr) (n m c d : Nat) (xs ys : List UInt8) (w : World) (ha : RB w A n xs) (hb : RB w B m ys) (hn : n + m ≤ 16777216) :
    Calls Tryd.prog 44 #[.slice A n c, .slice B m d] w fun e w' => ∃ v, e = .returned v ∧ NewB w w' v (xs ++ ys) ∧ Fr None' w w' := by
  have hl1 := ha.len1
  have hl2 := hb.len1
  have hfin : ∃ v, Ending.returned (.slice (some ⟨w.heap.size, 0, none⟩) (n + m) (n + m)) = Ending.returned v ∧ NewB w (w.alloc (.cells (xs.map bv ++ ys.map bv).toArray 5)) v (xs ++ ys) ∧ Fr None' w (w.alloc (.cells (xs.map bv ++ ys.map bv).toArray 5)) := by
    refine ⟨_, rfl, ⟨w.heap.size, Nat.le_refl _, ?_, ?_⟩, (Fr.refl _ _).alloc _⟩
    · simp at hl1 hl2 ⊢
      omega
    · rw [List.map_append]
      exact Blk.new _ _ _
  have hmk := run_mk w (n + m) (↑n + ↑m) (by omega) (by omega)
  have hc1 := run_copy_new w 3 0 (n + m) (n + m) n c A (zeros (n + m)) (xs.map bv) ha (bv_one xs) (by omega) (by rw [zeros_len]; omega)
  rw [splice_all _ n m hl1] at hc1
  have hc2 := run_copy_new w 3 (if m = 0 then 0 else n) m m m d B (xs.map bv ++ zeros m) (ys.map bv) hb (bv_one ys) (by omega) (by rw [List.length_append, zeros_len]; split <;> omega)
  have hs2 : splice (xs.map bv ++ zeros m) (if m = 0 then 0 else n) (ys.map bv) = xs.map bv ++ ys.map bv := by
    split
    · rename_i h0
      subst h0
      have : ys.map bv = [] := List.eq_nil_of_length_eq_zero hl2
      simp [this, splice, zeros]
    · exact splice_end _ _ n m hl1 hl2
  rw [hs2] at hc2
  generalize xs.map bv ++ zeros m = X at hc1 hc2
  generalize zeros (n + m) = Z at hmk hc1
  clear hl1 hl2 hs2
  generalize xs.map bv ++ ys.map bv = Y at hc2 hfin
  have HF := Lib.hid hfin
  clear hfin
  by_cases hm : m = 0
  · subst hm
    simp only [Nat.add_zero, if_true, Int.natCast_zero, Int.add_zero] at hmk hc1 hc2 HF
    go_enter Tryd.func44, Tryd.ntmps44
    go_wp2
    go_ret
    exact HF.out
  · simp only [hm, if_false] at hc2
    go_enter Tryd.func44, Tryd.ntmps44
    go_wp2
    go_ret
    exact HF.out

/-! ### the sum -/
def tab : List Nat := [0, 498536548, 997073096, 651767980, 1994146192, 1802195444, 1303535960, 1342533948, 3988292384, 4027552580, 3604390888, 3412177804, 2607071920, 2262029012, 2685067896, 3183342108]
def tb (i : Nat) : Nat := tab.getD i 0
/-- Half a byte's step of the register. -/
def nib (r : Nat) : Nat := r / 16 ^^^ tb (r % 16)
def crcStep (r : Nat) (c : UInt8) : Nat := nib (nib (r ^^^ c.toNat))
def crcReg (l : List UInt8) : Nat := l.foldl crcStep 4294967295
/-- The sum of a list of bytes. -/
def crc (l : List UInt8) : Nat := 4294967295 ^^^ crcReg l
theorem tab_lt (i : Nat) : tb i < 4294967296 := by
  unfold tb
  by_cases h : i < 16
  · have : ∀ i : Fin 16, tab.getD i.1 0 < 4294967296 := by decide
    exact this ⟨i, h⟩
  · rw [List.getD_eq_getElem?_getD, List.getElem?_eq_none (by simp [tab]; omega)]
    decide
theorem nib_lt (r : Nat) (h : r < 4294967296) : nib r < 4294967296 := by
  unfold nib
  exact Nat.xor_lt_two_pow (n := 32) (by omega) (tab_lt _)
theorem crcStep_lt (r : Nat) (c : UInt8) (h : r < 4294967296) : crcStep r c < 4294967296 := by
  unfold crcStep
  refine nib_lt _ (nib_lt _ (Nat.xor_lt_two_pow (n := 32) h ?_))
  have := c.toNat_lt
  omega
theorem crcReg_lt (l : List UInt8) : crcReg l < 4294967296 := by
  unfold crcReg
  have : ∀ (l : List UInt8) (r : Nat), r < 4294967296 → l.foldl crcStep r < 4294967296 := by
    intro l
    induction l with
    | nil => intro r h; exact h
    | cons c l ih => intro r h; exact ih _ (crcStep_lt r c h)
  exact this l _ (by decide)
theorem crc_lt (l : List UInt8) : crc l < 4294967296 := Nat.xor_lt_two_pow (n := 32) (by decide) (crcReg_lt l)

/-- The table of the sum lies in its variable. -/
def Tab (w : World) : Prop := 3 < w.heap.size ∧ ∀ i, i < 16 → w.cell? ⟨3, i, none⟩ = some (.int .u32 ((tb i : Nat) : Int))

theorem RB.at_ {w : World} {A : Option Addr} {n k : Nat} {l : List UInt8} (h : RB w A n l) (hk : k < n) : ∃ b off, ∃ u : UInt8, A = some ⟨b, off, none⟩ ∧ b < w.heap.size ∧ l[k]? = some u ∧ w.cell? ⟨b, off + k, none⟩ = some (.int .u8 (u.toNat : Int)) := by
  obtain ⟨b, off, u, hA, hb, hx, hc⟩ := h.at1 hk
  rw [List.getElem?_map, Option.map_eq_some_iff] at hx
  obtain ⟨u', hu, rfl⟩ := hx
  exact ⟨b, off, u', hA, hb, hu, hc⟩

theorem and15 (r : Nat) (h : r < 4294967296) : bits .and .u32 (r : Int) 15 = ((r % 16 : Nat) : Int) := by
  have := u32_and_nat r 15 h (by omega)
  rw [nat_mask4] at this
  exact this
theorem nib_xor (r : Nat) (h : r < 4294967296) : bits .xor .u32 ((r : Int) / 16) ((tb (r % 16) : Nat) : Int) = (nib r : Int) :=
  u32_xor_nat (r / 16) _ (by omega) (tab_lt _)
theorem max_xor (r : Nat) (h : r < 4294967296) : bits .xor .u32 IntKind.u32.max (r : Int) = ((4294967295 ^^^ r : Nat) : Int) :=
  u32_xor_nat 4294967295 r (by omega) h
theorem take_snoc {l : List UInt8} {k : Nat} {u : UInt8} (h : l[k]? = some u) : l.take (k + 1) = l.take k ++ [u] := by
  rw [List.take_add_one, h]
  rfl
theorem crcReg_snoc {l : List UInt8} {k : Nat} {u : UInt8} (h : l[k]? = some u) : crcReg (l.take (k + 1)) = crcStep (crcReg (l.take k)) u := by
  rw [take_snoc h, crcReg, List.foldl_append]
  rfl

set_option maxHeartbeats 1000000 in
theorem sum_any (A : Option Addr) (n c : Nat) (xs : List UInt8) (w : World) (hT : Tab w) (ha : RB w A n xs) (hn : n ≤ 16777216) :
    Calls Tryd.prog 43 #[.slice A n c] w fun e w' => e = .returned (.int .u32 (crc xs : Nat)) ∧ w = w' := by
  have hl1 := Lib.hid ha.len1
  go_enter Tryd.func43, Tryd.ntmps43
  go_wp2
  go_loop [3, 8] (fun r i => ∃ k : Nat, k ≤ n ∧ i = .int .i64 k ∧ r = .int .u32 (crcReg (xs.take k) : Nat)) (fun _ i => n - (intOf i).toNat)
  case atStart => exact ⟨0, Nat.zero_le _, rfl, rfl⟩
  case round =>
    obtain ⟨k, hk, rfl, rfl⟩ := hrel
    by_cases hlt : k < n
    · obtain ⟨b, off, u, rfl, hb, hx, hc⟩ := ha.at_ hlt
      have HS := Lib.hid (crcReg_snoc hx)
      have hr := crcReg_lt (xs.take k)
      generalize hR : crcReg (xs.take k) = r at hr HS
      have hr1 : r ^^^ u.toNat < 4294967296 := Nat.xor_lt_two_pow (n := 32) hr (by have := u.toNat_lt; omega)
      have e1 := u32_xor_nat r u.toNat hr (by have := u.toNat_lt; omega)
      unfold crcStep at HS
      generalize r ^^^ u.toNat = r1 at e1 hr1 HS
      have hr2 := nib_lt r1 hr1
      have e2 := and15 r1 hr1
      have e3 := nib_xor r1 hr1
      have ht1 := hT.2 (r1 % 16) (by omega)
      have hm1 : r1 % 16 < 16 := by omega
      generalize nib r1 = r2 at hr2 e3 HS
      have e4 := and15 r2 hr2
      have e5 := nib_xor r2 hr2
      have ht2 := hT.2 (r2 % 16) (by omega)
      have hm2 : r2 % 16 < 16 := by omega
      have HR := Lib.hid hR
      clear hR
      have hu := u8_lt u
      go_wp2
      go_round
      case rel => exact ⟨k + 1, by omega, by go_num, by rw [HS.out]⟩
      case measure => simp [intOf]; omega
    · have e1 := max_xor _ (crcReg_lt (xs.take k))
      have HE : Hid (((4294967295 ^^^ crcReg (xs.take k) : Nat)) = crc xs) := by
        unfold crc
        rw [List.take_of_length_le (by have := hl1.out; simp at this; omega)]
        rfl
      go_wp2
      go_ret
      exact ⟨congrArg (fun x : Nat => Ending.returned (.int .u32 (x : Int))) HE.out, rfl⟩

/-! ### bytes put behind -/
/-- A byte list that a call has just laid as its variadic argument. -/
theorem lit_reads (w : World) (t : TypeId) (l : List UInt8) (cs : Array Value) (h : cs = (l.map bv).toArray) : RB (w.alloc (.cells cs t)) (some ⟨w.heap.size, 0, none⟩) l.length l := by
  subst h
  exact (Blk.new w t _).reads0 (by simp)
theorem NewB.later {w0 w w' : World} {v : Value} {l : List UInt8} (h : NewB w w' v l) (hs : w0.heap.size ≤ w.heap.size) : NewB w0 w' v l := by
  obtain ⟨g, hg, hv, hb⟩ := h
  exact ⟨g, Nat.le_trans hs hg, hv, hb⟩
def lo8 (n : Nat) : UInt8 := UInt8.ofNat n
theorem lo8_nat (n : Nat) : (lo8 n).toNat = n % 256 := by simp [lo8]
theorem bv_lo8 (n : Nat) : bv (lo8 n) = .int .u8 ((n : Int) % 256) := by
  unfold bv
  rw [lo8_nat]
  rfl
theorem shr_nat (n k : Nat) : ((n / k : Nat) : Int) = (n : Int) / (k : Int) := by simp

theorem put8_any (A : Option Addr) (n c N : Nat) (xs : List UInt8) (w : World) (ha : RB w A n xs) (hn : n ≤ 10000) :
    Calls Tryd.prog 45 #[.slice A n c, .int .u64 (N : Int)] w fun e w' => ∃ v, e = .returned v ∧ NewB w w' v (xs ++ [lo8 N]) ∧ Fr None' w w' := by
  have hb := lit_reads w 5 [lo8 N] #[.int .u8 ((N : Int) % 256)] (by simp [bv_lo8])
  have hf : Fr None' w (w.alloc (.cells #[.int .u8 ((N : Int) % 256)] 5)) := (Fr.refl _ _).alloc _
  have Hc := Lib.hid (with_any A (some ⟨w.heap.size, 0, none⟩) n 1 c 1 xs [lo8 N] _ (ha.frn hf) hb (by omega))
  go_enter Tryd.func45, Tryd.ntmps45
  go_wp2_with (go_at_call 44; refine Hc.out.mono ?_; rintro e w' ⟨v, rfl, hv, hf'⟩)
  go_ret
  exact ⟨v, rfl, hv.later hf.size, hf.trans' hf'⟩

theorem put16_any (A : Option Addr) (n c N : Nat) (xs : List UInt8) (w : World) (ha : RB w A n xs) (hn : n ≤ 10000) :
    Calls Tryd.prog 46 #[.slice A n c, .int .u64 (N : Int)] w fun e w' => ∃ v, e = .returned v ∧ NewB w w' v (xs ++ [lo8 (N / 256), lo8 N]) ∧ Fr None' w w' := by
  have hb := lit_reads w 5 [lo8 (N / 256), lo8 N] #[.int .u8 ((N : Int) / 256 % 256), .int .u8 ((N : Int) % 256)] (by simp [bv_lo8])
  have hf : Fr None' w (w.alloc (.cells #[.int .u8 ((N : Int) / 256 % 256), .int .u8 ((N : Int) % 256)] 5)) := (Fr.refl _ _).alloc _
  have Hc := Lib.hid (with_any A (some ⟨w.heap.size, 0, none⟩) n 2 c 2 xs _ _ (ha.frn hf) hb (by omega))
  go_enter Tryd.func46, Tryd.ntmps46
  go_wp2_with (go_at_call 44; refine Hc.out.mono ?_; rintro e w' ⟨v, rfl, hv, hf'⟩)
  go_ret
  exact ⟨v, rfl, hv.later hf.size, hf.trans' hf'⟩

/-- The four bytes of a sum, the lowest first. -/
def sum4 (s : Nat) : List UInt8 := [lo8 s, lo8 (s / 256), lo8 (s / 65536), lo8 (s / 16777216)]
/-- Bytes and their sum. -/
def sealed (l : List UInt8) : List UInt8 := l ++ sum4 (crc l)

theorem seal_any (A : Option Addr) (n c : Nat) (xs : List UInt8) (w : World) (hT : Tab w) (ha : RB w A n xs) (hn : n ≤ 10000) :
    Calls Tryd.prog 31 #[.slice A n c] w fun e w' => ∃ v, e = .returned v ∧ NewB w w' v (sealed xs) ∧ Fr None' w w' := by
  have Hs := Lib.hid (sum_any A n c xs w hT ha (by omega))
  unfold sealed
  generalize crc xs = s at Hs
  have hb := lit_reads w 5 (sum4 s) #[.int .u8 ((s : Int) % 256), .int .u8 ((s : Int) / 256 % 256), .int .u8 ((s : Int) / 65536 % 256), .int .u8 ((s : Int) / 16777216 % 256)] (by simp [sum4, bv_lo8])
  have hf : Fr None' w (w.alloc (.cells #[.int .u8 ((s : Int) % 256), .int .u8 ((s : Int) / 256 % 256), .int .u8 ((s : Int) / 65536 % 256), .int .u8 ((s : Int) / 16777216 % 256)] 5)) := (Fr.refl _ _).alloc _
  have Hc := Lib.hid (with_any A (some ⟨w.heap.size, 0, none⟩) n 4 c 4 xs _ _ (ha.frn hf) hb (by omega))
  go_enter Tryd.func31, Tryd.ntmps31
  go_wp2_with (first | (go_at_call 43; refine Hs.out.mono ?_; rintro e w' ⟨rfl, rfl⟩) | (go_at_call 44; refine Hc.out.mono ?_; rintro e w' ⟨v, rfl, hv, hf'⟩))
  go_ret
  exact ⟨v, rfl, hv.later hf.size, hf.trans' hf'⟩
end Go.Proofs.YtodkhoclbhdihaaDoor
