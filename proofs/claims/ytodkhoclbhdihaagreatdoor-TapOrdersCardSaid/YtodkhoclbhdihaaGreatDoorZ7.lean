/-
  Contract of doc's Apply.
-/
import Derived.Test.YtodkhoclbhdihaaGreatDoorZ6
namespace Go.Proofs.YtodkhoclbhdihaaGreatDoor
open Go.RowKit

section
variable {P : Program} {w : World} {t : TypeId} {s n c : Nat} {A : Option Addr}
theorem sl_hi (ht : P.underlying t = some (.slice (P.elem t))) (hs : ∀ w, (sizeOf (P.elem t)).run P w = .ok s w) (p : Int) (h0 : 0 ≤ p) (hp : p ≤ n) (hc : n ≤ c) :
    (Instr.slice t (.slice A n c) none (some (.int .i64 p)) none).run P w = .ok (.slice A p.toNat c) w := by
  rw [run_slice_h w t A n c ht .i64 p h0 (by omega), hs]
  simp only [Result.andThen_ok, sliced, Nat.sub_zero, Nat.zero_mul]
  cases A <;> simp [Addr.add_zero']
theorem sl_lo (ht : P.underlying t = some (.slice (P.elem t))) (hs : ∀ w, (sizeOf (P.elem t)).run P w = .ok s w) (p : Int) (h0 : 0 ≤ p) (hp : p ≤ n) :
    (Instr.slice t (.slice A n c) (some (.int .i64 p)) none none).run P w = .ok (.slice (if c = p.toNat then A else A.map (·.add (p.toNat * s))) (n - p.toNat) (c - p.toNat)) w := by
  rw [run_slice_l w t A n c ht .i64 p h0 hp, hs]
  rfl
end

def elemCells (e : GElem) : List Value := [.int .u8 (e.ch.toNat : Int), .int .i64 e.client, .int .i64 e.seq]
def els (d : List GElem) : List Value := d.flatMap elemCells
def ops (d : List GOp) : List Value := d.flatMap opCells
abbrev ET : TypeId := 84
abbrev EL : TypeId := 34
theorem els_len (d : List GElem) : (els d).length = d.length * 3 := by
  unfold els
  induction d with
  | nil => rfl
  | cons a d ih => rw [List.flatMap_cons, List.length_append, ih, List.length_cons]; simp [elemCells]; omega
theorem els_one (d : List GElem) : ∀ v ∈ els d, v.oneCell' = true := by
  intro v hv
  obtain ⟨e, _, he⟩ := List.mem_flatMap.1 hv
  simp only [elemCells, List.mem_cons, List.not_mem_nil, or_false] at he
  rcases he with rfl | rfl | rfl <;> rfl
theorem els_take (d : List GElem) (k : Nat) : (els d).take (k * 3) = els (d.take k) := by
  unfold els
  induction d generalizing k with
  | nil => simp
  | cons a d ih =>
    cases k with
    | zero => simp
    | succ k =>
      rw [List.flatMap_cons, List.take_succ_cons, List.flatMap_cons, show (k + 1) * 3 = (elemCells a).length + k * 3 by simp [elemCells]; omega, List.take_length_add_append, ih]
theorem els_drop (d : List GElem) (k : Nat) : (els d).drop (k * 3) = els (d.drop k) := by
  unfold els
  induction d generalizing k with
  | nil => simp
  | cons a d ih =>
    cases k with
    | zero => simp
    | succ k =>
      rw [List.flatMap_cons, List.drop_succ_cons, show (k + 1) * 3 = (elemCells a).length + k * 3 by simp [elemCells]; omega, List.drop_length_add_append, ih]
theorem els_app (a b : List GElem) : els (a ++ b) = els a ++ els b := by simp [els]
theorem elem_info : (Tryz.prog.info? ET).map (fun i => (i.zero, i.size, i.bytes)) = some (some (.agg #[.int .u8 0, .int .i64 0, .int .i64 0]), 3, 24) := by kernel_rfl
theorem elem_size (w : World) : (sizeOf (Tryz.prog.elem EL)).run Tryz.prog w = .ok 3 w := by kernel_rfl
theorem elem_el : Tryz.prog.underlying EL = some (.slice (Tryz.prog.elem EL)) := by kernel_rfl
/-- append to a list of characters. -/
theorem app_el {base : Nat} {w : World} {v : Value} {n m c : Nat} {xs news : List Value} {A : Option Addr} (hown : w.ownsRow base ET 3 v n xs) (hr : Reads w 3 A m news) (h1 : ∀ u ∈ news, u.oneCell' = true) (hn : n + m ≤ 1000000) (hbase : base ≤ w.heap.size) (ty : TypeId) :
    ∃ v' w', (Builtin.append_ #[EL, EL] ty #[v, .slice A m c]).run Tryz.prog w = .ok v' w' ∧ w'.ownsRow base ET 3 v' (n + m) (xs ++ news) ∧ Fr (fun k => v.ownBlock = some k) w w' ∧ (v'.ownBlock = v.ownBlock ∨ v'.ownBlock = some w.heap.size) :=
  app_any (bytes := 24) Tryz.underlying34 elem_info rfl (by omega) hown hr h1 hn (by omega) hbase

/-- One more append to a list that is new since world W. -/
theorem app_step {W w : World} {v : Value} {n m c : Nat} {xs news : List Value} {A : Option Addr} (hf : Fr None' W w) (hown : w.ownsRow W.heap.size ET 3 v n xs) (hr : Reads w 3 A m news) (h1 : ∀ u ∈ news, u.oneCell' = true) (hn : n + m ≤ 1000000) (ty : TypeId) :
    ∃ v' w', (Builtin.append_ #[EL, EL] ty #[v, .slice A m c]).run Tryz.prog w = .ok v' w' ∧ w'.ownsRow W.heap.size ET 3 v' (n + m) (xs ++ news) ∧ Fr None' W w' ∧
      ∀ g t cs, Blk w g t cs → v.ownBlock ≠ some g → Blk w' g t cs ∧ v'.ownBlock ≠ some g := by
  obtain ⟨v', w', h1, h2, h3, h4⟩ := app_el hown hr h1 hn hf.size ty
  refine ⟨v', w', h1, h2, hf.trans h3 fun i hi hs => ?_, fun g t cs hg hne => ⟨hg.fr h3 hne, fun e => ?_⟩⟩
  · have := (hown.lt i hs).1
    omega
  · rcases h4 with h4 | h4
    · exact hne (h4.symm.trans e)
    · rw [h4] at e
      cases e
      have := hg.lt
      omega
theorem fits_bounds {n : Int} {o : GOp} (h : fitsF n o = 0) : 0 ≤ o.kind ∧ o.kind ≤ 2 ∧ 0 ≤ n ∧ n ≤ 4096 ∧ 0 ≤ o.pos ∧ (o.kind = 1 → o.pos ≤ n) ∧ (o.kind = 2 → o.pos < n) ∧ 1 ≤ o.client ∧ o.client ≤ 64 ∧ 1 ≤ o.seq ∧ o.seq ≤ 64 := by
  have h := h
  unfold fitsF validF posF at h
  by_cases hk : o.kind < 0 ∨ 2 < o.kind
  · simp [if_pos hk] at h
  rw [if_neg hk] at h
  by_cases hc : o.client < 1 ∨ 64 < o.client ∨ o.seq < 1 ∨ 64 < o.seq
  · simp [if_pos hc] at h
  rw [if_neg hc] at h
  by_cases hp : o.pos < 0
  · repeat' split at h
    all_goals first | omega | (simp at h; done)
  · repeat' split at h
    all_goals first | omega | (refine ⟨?_, ?_, ?_, ?_, ?_, ?_, ?_, ?_, ?_, ?_, ?_⟩ <;> omega)

/-- What Apply answers. -/
def ApplyPost (w : World) (d : List GElem) (o : GOp) (e : Ending) (w' : World) : Prop :=
  match applyF d o with
  | .error k => e = .returned (.tuple #[.slice none 0 0, .int .i64 k]) ∧ Fr None' w w'
  | .ok d' => ∃ v, e = .returned (.tuple #[v, .int .i64 0]) ∧ w'.ownsRow w.heap.size ET 3 v d'.length (els d') ∧ Fr None' w w'

set_option maxHeartbeats 4000000 in
theorem apply_any (A : Option Addr) (n c : Nat) (d : List GElem) (o : GOp) (w : World) (hr : Reads w 3 A n (els d)) (hc : n ≤ c) :
    Calls Tryz.prog 46 #[.slice A n c, opV o] w fun e w' => ApplyPost w d o e w' := by
  have hl : d.length = n := by have := hr.1; rw [els_len] at this; omega
  have hfa := fun w => fits_any n o w
  have HP := Lib.hid (fits_bounds (n := (n : Int)) (o := o))
  unfold ApplyPost applyF
  rw [hl]
  have HD : Hid (fitsF (n : Int) o = 0 → (o.kind = 1 → doneF d o = d.take o.pos.toNat ++ [elemOf o] ++ d.drop o.pos.toNat) ∧ (o.kind = 2 → doneF d o = d.take o.pos.toNat ++ d.drop (o.pos.toNat + 1)) ∧ (o.kind = 0 → doneF d o = d)) := Lib.hid fun _ => by
    unfold doneF
    refine ⟨fun h => by rw [if_pos h], fun h => by rw [if_neg (by omega), if_pos h], fun h => by rw [if_neg (by omega), if_neg (by omega)]⟩
  have HE : Hid (elemCells (elemOf o) = [.int .u8 (o.ch.toNat : Int), .int .i64 o.client, .int .i64 o.seq]) := Lib.hid rfl
  generalize elemOf o = eo at HD HE
  generalize doneF d o = dn at *
  generalize fitsF (n : Int) o = r at *
  have Hf := Lib.hid hfa
  have HR := Lib.hid hr
  have HL := Lib.hid hl
  unfold opV opCells at *
  obtain ⟨k, p, ch, cl, sq⟩ := o
  dsimp only at *
  have HB : Hid (Blk (w.alloc (.cells #[.int .i64 k, .int .i64 p, .int .u8 (ch.toNat : Int), .int .i64 cl, .int .i64 sq] 26)) w.heap.size 26 #[.int .i64 k, .int .i64 p, .int .u8 (ch.toNat : Int), .int .i64 cl, .int .i64 sq]) := Lib.hid (Blk.new w _ _)
  have HF0 : Hid (Fr None' w (w.alloc (.cells #[.int .i64 k, .int .i64 p, .int .u8 (ch.toNat : Int), .int .i64 cl, .int .i64 sq] 26))) := Lib.hid ((Fr.refl _ _).alloc _)
  clear hfa hr hl
  by_cases hr0 : r = 0
  · subst hr0
    obtain ⟨b1, b2, b3, b4, b5, b6, b7, b8, b9, b10, b11⟩ := HP.out rfl
    obtain ⟨d1, d2, d3⟩ := HD.out rfl
    have D1 := Lib.hid d1
    have D2 := Lib.hid d2
    have D3 := Lib.hid d3
    clear d1 d2 d3
    simp only [if_true]
    have e1 : IntKind.i64.wrap ((n : Int) + 1) = (n : Int) + 1 := IntWalk.i64_in _ (by omega)
    go_enter Tryz.func46, Tryz.ntmps46
    go_wp2_with fail
    refine (Hf.out _).mono ?_
    rintro e w1 ⟨rfl, hf1⟩
    dsimp only
    have HF1 := Lib.hid (HF0.out.trans' hf1)
    have hb1 := HB.out.fr hf1 (fun h => h)
    have hle : w.heap.size ≤ w1.heap.size := HF1.out.size
    obtain ⟨w2, hmk, hown, hf2⟩ := mk_any (P := Tryz.prog) (w := w1) (base := w.heap.size) (e := ET) (size := 3) (bytes := 24) Tryz.underlying34 elem_info (n + 1) ((n : Int) + 1) (by omega) (by omega) (by omega) hle
    have hb2 := hb1.fr hf2 (fun h => h)
    have HF2 := Lib.hid (HF1.out.trans' hf2)
    have hR2 := HR.out.frn HF2.out
    have hne : w1.heap.size ≠ w.heap.size := by have := hb1.lt; omega
    have Hb2 := Lib.hid hb2
    have c0 : w2.cell? ⟨w.heap.size, 0, none⟩ = some (.int .i64 k) := Blk.cell hb2 0
    have c1 : w2.cell? ⟨w.heap.size, 1, none⟩ = some (.int .i64 p) := Blk.cell hb2 1
    have hv2 : (Value.slice (some ⟨w1.heap.size, 0, none⟩) 0 (n + 1)).ownBlock ≠ some w.heap.size := by
      intro h
      simp [Value.ownBlock] at h
      exact hne h
    have c2 : w2.cell? ⟨w.heap.size, 2, none⟩ = some (.int .u8 (ch.toNat : Int)) := Blk.cell hb2 2
    have Hown := Lib.hid hown
    have Hv2 := Lib.hid hv2
    have HNE := Lib.hid hne
    have HLE := Lib.hid hle
    have HR2 := Lib.hid hR2
    clear hf1 hf2 hb1 hb2 hown hv2 hne hle hR2 c2
    by_cases hk1 : k = 1
    · have q1 : (k == 1) = true := by simpa using hk1
      have hp := b6 hk1
      have hs1 : ∀ w', (Instr.slice EL (.slice A n c) none (some (.int .i64 p)) none).run Tryz.prog w' = .ok (.slice A p.toNat c) w' := fun w' => sl_hi elem_el elem_size p b5 hp hc
      have hs2 : ∀ w', (Instr.slice EL (.slice A n c) (some (.int .i64 p)) none none).run Tryz.prog w' = .ok (.slice (if c = p.toNat then A else A.map (·.add (p.toNat * 3))) (n - p.toNat) (c - p.toNat)) w' := fun w' => sl_lo elem_el elem_size p b5 hp
      obtain ⟨v3, w3, r3, o3, f3, k3⟩ := app_step (c := c) HF2.out Hown.out (HR2.out.take (k := p.toNat) (by omega)) (by rw [els_take]; exact els_one _) (by omega) 34
      obtain ⟨hb3, hv3⟩ := k3 _ _ _ Hb2.out Hv2.out
      have f3a := f3.alloc (.cells #[.int .u8 (ch.toNat : Int), .int .i64 cl, .int .i64 sq] ET)
      obtain ⟨v4, w4, r4, o4, f4, k4⟩ := app_step (c := 1) f3a (o3.alloc _) (one_reads w3 ET [.int .u8 (ch.toNat : Int), .int .i64 cl, .int .i64 sq]) (by rw [← HE.out]; have := els_one [eo]; unfold els at this; simpa using this) (by omega) 34
      obtain ⟨hb4, hv4⟩ := k4 _ _ _ (hb3.alloc _) hv3
      obtain ⟨v5, w5, r5, o5, f5, k5⟩ := app_step (c := c - p.toNat) f4 o4 ((HR.out.frn f4).cut (k := p.toNat) (by omega) hc) (by rw [els_drop]; exact els_one _) (by omega) 34
      have c31 : w3.cell? ⟨w.heap.size, 1, none⟩ = some (.int .i64 p) := Blk.cell hb3 1
      have c32 : w3.cell? ⟨w.heap.size, 2, none⟩ = some (.int .u8 (ch.toNat : Int)) := Blk.cell hb3 2
      have c33 : w3.cell? ⟨w.heap.size, 3, none⟩ = some (.int .i64 cl) := Blk.cell hb3 3
      have c34 : w3.cell? ⟨w.heap.size, 4, none⟩ = some (.int .i64 sq) := Blk.cell hb3 4
      have c41 : w4.cell? ⟨w.heap.size, 1, none⟩ = some (.int .i64 p) := Blk.cell hb4 1
      have HO : Hid (w5.ownsRow w.heap.size ET 3 v5 dn.length (els dn)) := by
        show w5.ownsRow w.heap.size ET 3 v5 dn.length (els dn)
        have hd : dn.length = 0 + p.toNat + 1 + (n - p.toNat) := by
          rw [D1.out hk1]
          simp [HL.out]
          omega
        have he : els dn = ([] ++ (els d).take (p.toNat * 3) ++ [.int .u8 (ch.toNat : Int), .int .i64 cl, .int .i64 sq]) ++ (els d).drop (p.toNat * 3) := by
          rw [D1.out hk1, els_app, els_app, els_take, els_drop, ← HE.out]
          simp [els]
        rw [hd, he]
        exact o5
      have HF5 := Lib.hid f5
      have HK := Lib.hid hk1
      clear hk1 o3 o4 o5 f3 f3a f4 f5 k3 k4 k5 hb3 hb4 hv3 hv4
      iterate 70 (first | (at_builtin; first | (refine wpList_app rfl _ _ _ rfl rfl rfl r3 ?_; clear r3) | (refine wpList_app rfl _ _ _ rfl rfl rfl r4 ?_; clear r4) | (refine wpList_app rfl _ _ _ rfl rfl rfl r5 ?_; clear r5)) | go_step)
      iterate 50 (first | (at_builtin; first | (refine wpList_app rfl _ _ _ rfl rfl rfl r3 ?_; clear r3) | (refine wpList_app rfl _ _ _ rfl rfl rfl r4 ?_; clear r4) | (refine wpList_app rfl _ _ _ rfl rfl rfl r5 ?_; clear r5)) | go_step)
      iterate 46 (first | (at_builtin; first | (refine wpList_app rfl _ _ _ rfl rfl rfl r3 ?_; clear r3) | (refine wpList_app rfl _ _ _ rfl rfl rfl r4 ?_; clear r4) | (refine wpList_app rfl _ _ _ rfl rfl rfl r5 ?_; clear r5)) | go_step)
      go_ret2
      exact ⟨_, rfl, HO.out, HF5.out⟩
    by_cases hk2 : k = 2
    · have q1 : (k == 1) = false := by simpa using hk1
      have q2 : (k == 2) = true := by simpa using hk2
      have hp := b7 hk2
      have e2 : IntKind.i64.wrap (p + 1) = p + 1 := IntWalk.i64_in _ (by omega)
      have et : (p + 1).toNat = p.toNat + 1 := by omega
      have hs1 : ∀ w', (Instr.slice EL (.slice A n c) none (some (.int .i64 p)) none).run Tryz.prog w' = .ok (.slice A p.toNat c) w' := fun w' => sl_hi elem_el elem_size p b5 (by omega) hc
      have hs2 : ∀ w', (Instr.slice EL (.slice A n c) (some (.int .i64 (p + 1))) none none).run Tryz.prog w' = .ok (.slice (if c = p.toNat + 1 then A else A.map (·.add ((p.toNat + 1) * 3))) (n - (p.toNat + 1)) (c - (p.toNat + 1))) w' := fun w' => by
        have := sl_lo (w := w') (c := c) (A := A) (n := n) elem_el elem_size (p + 1) (by omega) (by omega)
        rwa [et] at this
      obtain ⟨v3, w3, r3, o3, f3, k3⟩ := app_step (c := c) HF2.out Hown.out (HR2.out.take (k := p.toNat) (by omega)) (by rw [els_take]; exact els_one _) (by omega) 34
      obtain ⟨hb3, hv3⟩ := k3 _ _ _ Hb2.out Hv2.out
      obtain ⟨v5, w5, r5, o5, f5, k5⟩ := app_step (c := c - (p.toNat + 1)) f3 o3 ((HR.out.frn f3).cut (k := p.toNat + 1) (by omega) hc) (by rw [els_drop]; exact els_one _) (by omega) 34
      have c31 : w3.cell? ⟨w.heap.size, 1, none⟩ = some (.int .i64 p) := Blk.cell hb3 1
      have HO : Hid (w5.ownsRow w.heap.size ET 3 v5 dn.length (els dn)) := by
        show w5.ownsRow w.heap.size ET 3 v5 dn.length (els dn)
        have hd : dn.length = 0 + p.toNat + (n - (p.toNat + 1)) := by
          rw [D2.out hk2]
          simp [HL.out]
          omega
        have he : els dn = ([] ++ (els d).take (p.toNat * 3)) ++ (els d).drop ((p.toNat + 1) * 3) := by
          rw [D2.out hk2, els_app, els_take, els_drop]
          simp
        rw [hd, he]
        exact o5
      have HF5 := Lib.hid f5
      have HK := Lib.hid hk2
      clear hk1 hk2 o3 o5 f3 f5 k3 k5 hb3 hv3
      iterate 70 (first | (at_builtin; first | (refine wpList_app rfl _ _ _ rfl rfl rfl r3 ?_; clear r3) | (refine wpList_app rfl _ _ _ rfl rfl rfl r5 ?_; clear r5)) | go_step)
      iterate 50 (first | (at_builtin; first | (refine wpList_app rfl _ _ _ rfl rfl rfl r3 ?_; clear r3) | (refine wpList_app rfl _ _ _ rfl rfl rfl r5 ?_; clear r5)) | go_step)
      iterate 25 (first | (at_builtin; first | (refine wpList_app rfl _ _ _ rfl rfl rfl r3 ?_; clear r3) | (refine wpList_app rfl _ _ _ rfl rfl rfl r5 ?_; clear r5)) | go_step)
      go_ret2
      exact ⟨_, rfl, HO.out, HF5.out⟩
    · have q1 : (k == 1) = false := by simpa using hk1
      have q2 : (k == 2) = false := by simpa using hk2
      obtain ⟨v5, w5, r5, o5, f5, k5⟩ := app_step (c := c) HF2.out Hown.out HR2.out (els_one _) (by omega) 34
      have HO : Hid (w5.ownsRow w.heap.size ET 3 v5 dn.length (els dn)) := by
        show w5.ownsRow w.heap.size ET 3 v5 dn.length (els dn)
        rw [D3.out (by omega), HL.out]
        simpa using o5
      have HF5 := Lib.hid f5
      clear hk1 hk2 o5 f5 k5
      iterate 70 (first | (at_builtin; first | (refine wpList_app rfl _ _ _ rfl rfl rfl r5 ?_; clear r5)) | go_step)
      go_wp2_with (at_builtin; first | (refine wpList_app rfl _ _ _ rfl rfl rfl r5 ?_; clear r5))
      go_ret2
      exact ⟨_, rfl, HO.out, HF5.out⟩
  · have hz : (r != 0) = true := by simpa using hr0
    have HZ := Lib.hid hr0
    clear hr0
    simp only [HZ.out, if_false]
    go_enter Tryz.func46, Tryz.ntmps46
    go_wp2_with fail
    refine (Hf.out _).mono ?_
    rintro e w1 ⟨rfl, hf1⟩
    have HF1 := Lib.hid (HF0.out.trans' hf1)
    clear hf1
    go_wp2
    go_ret2
    exact ⟨rfl, HF1.out⟩
end Go.Proofs.YtodkhoclbhdihaaGreatDoor

/-
  A tap in memory; contracts of tap's New and together.
-/
namespace Go.Proofs.YtodkhoclbhdihaaGreatDoor
open Go.RowKit

def nameV (p : Int × Int) : Value := .agg #[.int .i64 p.1, .int .i64 p.2]
def editV (e : GEdit) : Value := .agg (.int .i64 e.tag :: opCells e.op).toArray
abbrev MR : TypeId := 101
abbrev MV : TypeId := 102
abbrev ME : TypeId := 103
abbrev NM : TypeId := 114
abbrev INT : TypeId := 3

theorem int_key : KeyOk Tryz.prog INT vi := key_now Tryz.underlying3 (fun a b => by simp [vi, Instr.sameNow, BEq.beq]) (fun k => rfl)
theorem run_eq_name (w : World) (a b : Int × Int) : (Op.equal NM (nameV a) (nameV b)).run Tryz.prog w = .ok (decide (a = b)) w := by
  obtain ⟨a1, a2⟩ := a
  obtain ⟨b1, b2⟩ := b
  unfold Op.equal nameV
  rw [show Op.maxDepth = 9999 + 1 from rfl, run_equalIn_struct w 9999 NM _ _ (by kernel_rfl) (by kernel_rfl)]
  simp [go_sem, Tryz.underlying114, Tryz.underlying3]
  by_cases h1 : a1 = b1 <;> by_cases h2 : a2 = b2 <;> simp [h1, h2]
theorem run_check_name (w : World) (em : Bool) (k : Int × Int) : (Instr.checkKey em 10000 NM (nameV k)).run Tryz.prog w = .ok () w := by kernel_rfl
theorem name_key : KeyOk Tryz.prog NM nameV := key_asking Tryz.underlying114 (fun a b => by rfl) run_eq_name run_check_name (fun k => by simp [nameV, Instr.sameBits])

abbrev OPT : TypeId := 26
theorem u8_eq {a b : UInt8} : ((a.toNat : Int) = (b.toNat : Int)) ↔ a = b := by
  constructor
  · intro h
    exact UInt8.toNat_inj.1 (by omega)
  · rintro rfl; rfl
theorem run_eq_op (w : World) (d : Nat) (a b : GOp) : (Op.equalIn (d + 2) OPT (opV a) (opV b)).run Tryz.prog w = .ok (decide (a = b)) w := by
  obtain ⟨a1, a2, a3, a4, a5⟩ := a
  obtain ⟨b1, b2, b3, b4, b5⟩ := b
  unfold opV opCells
  rw [run_equalIn_struct w (d + 1) OPT _ _ (by kernel_rfl) (by kernel_rfl)]
  simp [go_sem, Tryz.underlying26, Tryz.underlying3, Tryz.underlying5]
  by_cases h1 : a1 = b1
  · by_cases h2 : a2 = b2
    · by_cases h3 : a3 = b3
      · by_cases h4 : a4 = b4
        · by_cases h5 : a5 = b5 <;> simp [h1, h2, h3, h4, h5]
        · simp [h1, h2, h3, h4]
      · have h3' : ¬ ((a3.toNat : Int) = (b3.toNat : Int)) := fun h => h3 (u8_eq.1 h)
        simp [h1, h2, h3, h3']
    · simp [h1, h2]
  · simp [h1]
theorem neq_op (w : World) (a b : GOp) : (binOp .neq OPT (opV a) (opV b)).run Tryz.prog w = .ok (.bool (!decide (a = b))) w := by
  have h := run_eq_op w 9998 a b
  have h2 : (Op.equal OPT (opV a) (opV b)).run Tryz.prog w = .ok (decide (a = b)) w := h
  unfold opV at h2 ⊢
  simp [binOp, h2]
theorem run_eq_edit (w : World) (d : Nat) (a b : GEdit) : (Op.equalIn (d + 3) 67 (editV a) (editV b)).run Tryz.prog w = .ok (decide (a = b)) w := by
  obtain ⟨a0, a1, a2, a3, a4, a5⟩ := a
  obtain ⟨b0, b1, b2, b3, b4, b5⟩ := b
  unfold editV opCells
  rw [run_equalIn_struct w (d + 2) 67 _ _ (by kernel_rfl) (by kernel_rfl)]
  simp [go_sem, Tryz.underlying67, Tryz.underlying26, Tryz.underlying3, Tryz.underlying5]
  by_cases h0 : a0 = b0
  · by_cases h1 : a1 = b1
    · by_cases h2 : a2 = b2
      · by_cases h3 : a3 = b3
        · by_cases h4 : a4 = b4
          · by_cases h5 : a5 = b5 <;> simp [h0, h1, h2, h3, h4, h5]
          · simp [h0, h1, h2, h3, h4]
        · have h3' : ¬ ((a3.toNat : Int) = (b3.toNat : Int)) := fun h => h3 (u8_eq.1 h)
          simp [h0, h1, h2, h3, h3']
      · simp [h0, h1, h2]
    · simp [h0, h1]
  · simp [h0]
theorem neq_edit (w : World) (a b : GEdit) : (binOp .neq 67 (editV a) (editV b)).run Tryz.prog w = .ok (.bool (!decide (a = b))) w := by
  have h2 : (Op.equal 67 (editV a) (editV b)).run Tryz.prog w = .ok (decide (a = b)) w := run_eq_edit w 9997 a b
  unfold editV at h2 ⊢
  simp [binOp, h2]

theorem mk_info : ∀ w, (zeroValue OPT).run Tryz.prog w = .ok (opV zeroOp) w := fun w => by kernel_rfl
theorem mk_int : ∀ w, (zeroValue INT).run Tryz.prog w = .ok (vi 0) w := fun w => by kernel_rfl
def zeroEdit : GEdit := ⟨0, zeroOp⟩
theorem mk_edit : ∀ w, (zeroValue 67).run Tryz.prog w = .ok (editV zeroEdit) w := fun w => by kernel_rfl

/-- Block a is a tap that knows T; its maps lie in blocks r, v, e. -/
structure TapAt (w : World) (a r v e : Nat) (T : GTap) : Prop where
  blk : Blk w a 105 #[.int .i64 T.clients, .int .i64 T.epoch, .map (some r), .map (some v), .map (some e)]
  recs : MapAt vi opV w r T.records
  revs : MapAt nameV vi w v T.revs
  eds : MapAt nameV editV w e T.edits
  ne : a ≠ r ∧ a ≠ v ∧ a ≠ e ∧ r ≠ v ∧ r ≠ e ∧ v ≠ e
/-- The blocks of a tap. -/
def Its (a r v e : Nat) : Nat → Prop := fun k => k = a ∨ k = r ∨ k = v ∨ k = e
theorem TapAt.fr {w w' : World} {S : Nat → Prop} {a r v e : Nat} {T : GTap} (h : TapAt w a r v e T) (hf : Fr S w w') (hs : ∀ k, Its a r v e k → ¬ S k) : TapAt w' a r v e T :=
  ⟨h.blk.fr hf (hs _ (.inl rfl)), h.recs.fr hf (hs _ (.inr (.inl rfl))), h.revs.fr hf (hs _ (.inr (.inr (.inl rfl)))), h.eds.fr hf (hs _ (.inr (.inr (.inr rfl)))), h.ne⟩
theorem TapAt.frn {w w' : World} {a r v e : Nat} {T : GTap} (h : TapAt w a r v e T) (hf : Fr None' w w') : TapAt w' a r v e T := h.fr hf fun _ _ h => h
theorem TapAt.lt {w : World} {a r v e : Nat} {T : GTap} (h : TapAt w a r v e T) : ∀ k, Its a r v e k → k < w.heap.size := by
  rintro k (rfl | rfl | rfl | rfl)
  · exact h.blk.lt
  · exact h.recs.lt
  · exact h.revs.lt
  · exact h.eds.lt

theorem run_mkmap (t : TypeId) (w : World) : (Instr.makeMap t none).run Tryz.prog w = .ok (.map (some w.heap.size)) (w.alloc (.map #[] 0)) := by simp [Instr.makeMap]
def emptyT (n : Int) : GTap := ⟨n, 0, [], [], []⟩
theorem new_any (n : Int) (w : World) (h1 : 1 ≤ n) (h64 : n ≤ 64) : Calls Tryz.prog 44 #[.int .i64 n] w fun ev w' =>
    ∃ a r v e, ev = .returned (.tuple #[.pointer (some ⟨a, 0, none⟩), .int .i64 0]) ∧ TapAt w' a r v e (emptyT n) ∧ (∀ k, Its a r v e k → w.heap.size ≤ k) ∧ Fr None' w w' := by
  have d1 : decide (n < 1) = false := by simp; omega
  have d2 : decide (64 < n) = false := by simp; omega
  have HT : Hid (TapAt ((((w.alloc (.map #[] 0)).alloc (.map #[] 0)).alloc (.map #[] 0)).alloc (.cells #[.int .i64 n, .int .i64 0, .map (some w.heap.size), .map (some (w.heap.size + 1)), .map (some (w.heap.size + 2))] 105)) (w.heap.size + 3) w.heap.size (w.heap.size + 1) (w.heap.size + 2) (emptyT n)) := by
    refine ⟨?_, ?_, ?_, ?_, by omega⟩
    · have := Blk.new (((w.alloc (.map #[] 0)).alloc (.map #[] 0)).alloc (.map #[] 0)) 105 #[.int .i64 n, .int .i64 0, .map (some w.heap.size), .map (some (w.heap.size + 1)), .map (some (w.heap.size + 2))]
      have e3 : (((w.alloc (.map #[] 0)).alloc (.map #[] 0)).alloc (.map #[] 0)).heap.size = w.heap.size + 3 := by simp
      rw [e3] at this
      exact this
    · exact (((MapAt.new w).fr ((Fr.refl None' _).alloc _) fun h => h).fr ((Fr.refl None' _).alloc _) fun h => h).fr ((Fr.refl None' _).alloc _) fun h => h
    · have := (((MapAt.new (kv := nameV) (vv := vi) (w.alloc (.map #[] 0)))).fr ((Fr.refl None' _).alloc (.map #[] 0)) fun h => h).fr ((Fr.refl None' _).alloc (.cells #[.int .i64 n, .int .i64 0, .map (some w.heap.size), .map (some (w.heap.size + 1)), .map (some (w.heap.size + 2))] 105)) fun h => h
      have e1 : (w.alloc (.map #[] 0)).heap.size = w.heap.size + 1 := by simp
      rw [e1] at this
      exact this
    · have := (MapAt.new (kv := nameV) (vv := editV) ((w.alloc (.map #[] 0)).alloc (.map #[] 0))).fr ((Fr.refl None' _).alloc (.cells #[.int .i64 n, .int .i64 0, .map (some w.heap.size), .map (some (w.heap.size + 1)), .map (some (w.heap.size + 2))] 105)) fun h => h
      have e2 : ((w.alloc (.map #[] 0)).alloc (.map #[] 0)).heap.size = w.heap.size + 2 := by simp
      rw [e2] at this
      exact this
  have hmk := run_mkmap
  go_enter Tryz.func44, Tryz.ntmps44
  go_wp2
  go_ret2
  exact ⟨_, _, _, _, rfl, HT.out, by rintro k (rfl | rfl | rfl | rfl) <;> omega, (((((Fr.refl _ _).alloc _).alloc _).alloc _).alloc _)⟩

theorem together_any (a b : GOp) (w : World) : Calls Tryz.prog 97 #[opV a, opV b] w fun e w' => e = .returned (.bool (togetherB a b)) ∧ Fr None' w w' := by
  have HT : Hid (togetherB a b = (((a.kind == b.kind) && ((a.ch.toNat : Int) == (b.ch.toNat : Int))) || ((a.kind == 0) && (b.kind == 2)))) := by
    show togetherB a b = _
    unfold togetherB
    congr 2
    by_cases h : a.ch = b.ch
    · simp [h]
    · have h' : ¬ ((a.ch.toNat : Int) = (b.ch.toNat : Int)) := fun e => h (u8_eq.1 e)
      rw [decide_eq_false h]
      symm
      simpa using h'
  generalize togetherB a b = t at HT
  unfold opV opCells
  obtain ⟨a1, a2, a3, a4, a5⟩ := a
  obtain ⟨b1, b2, b3, b4, b5⟩ := b
  dsimp only at *
  generalize (a3.toNat : Int) = ac at *
  generalize (b3.toNat : Int) = bc at *
  cases h1 : (a1 == b1) <;> cases h2 : (ac == bc) <;> cases h3 : (a1 == 0) <;> cases h4 : (b1 == 2)
  all_goals
    rw [h1, h2, h3, h4] at HT
    go_enter Tryz.func97, Tryz.ntmps97
    go_wp2
    go_ret
    exact ⟨retB HT.out.symm, ((Fr.refl _ _).alloc _).alloc _⟩
end Go.Proofs.YtodkhoclbhdihaaGreatDoor

/-
  Contract of tap's proves.
-/
namespace Go.Proofs.YtodkhoclbhdihaaGreatDoor
open Go.RowKit

def toldV (rev : Int) (o : GOp) : Value := .agg (.int .i64 rev :: opCells o).toArray
def dgV (fr to_ : Int) (b : Value) (sp : Bool) : Value := .agg #[.int .i64 fr, .int .i64 to_, b, .bool sp]
def provV (m : GMsg) : Value := if m.kind = 5 then .iface 122 (toldV m.rev m.op) else if m.kind = 2 then .iface 125 (editV ⟨m.tag, m.op⟩) else .nilIface

set_option maxHeartbeats 8000000 in
theorem proves_any (m : GMsg) (fr to_ : Int) (b : Value) (sp : Bool) (w : World) :
    Calls Tryz.prog 63 #[msgV m, dgV fr to_ b sp] w fun e w' => e = .returned (.tuple #[provV m, .bool (rightWay m fr to_)]) ∧ Fr None' w w' := by
  obtain ⟨k, ep, cl, hv, fi, nu, ac, rv, tg, ⟨ok, op, oc, ol, os⟩⟩ := m
  have HP : Hid (∀ b, (k = 5 → b = Value.iface 122 (.agg #[.int .i64 rv, .int .i64 ok, .int .i64 op, .int .u8 (oc.toNat : Int), .int .i64 ol, .int .i64 os])) → (k = 2 → b = Value.iface 125 (.agg #[.int .i64 tg, .int .i64 ok, .int .i64 op, .int .u8 (oc.toNat : Int), .int .i64 ol, .int .i64 os])) → (k ≠ 5 → k ≠ 2 → b = .nilIface) → provV ⟨k, ep, cl, hv, fi, nu, ac, rv, tg, ⟨ok, op, oc, ol, os⟩⟩ = b) := Lib.hid fun b h5 h2 hn => by
    unfold provV
    by_cases e5 : k = 5
    · rw [if_pos e5, h5 e5]; rfl
    · rw [if_neg e5]
      by_cases e2 : k = 2
      · rw [if_pos e2, h2 e2]; rfl
      · rw [if_neg e2, hn e5 e2]
  have HD : Hid (k = 4 ∨ k = 6 ∨ k = 5 → rightWay ⟨k, ep, cl, hv, fi, nu, ac, rv, tg, ⟨ok, op, oc, ol, os⟩⟩ fr to_ = ((fr == 0) && (to_ == cl))) := Lib.hid fun h => by
    unfold rightWay; rw [if_pos h]; rfl
  have HU : Hid (¬ (k = 4 ∨ k = 6 ∨ k = 5) → rightWay ⟨k, ep, cl, hv, fi, nu, ac, rv, tg, ⟨ok, op, oc, ol, os⟩⟩ fr to_ = ((fr == cl) && (to_ == 0))) := Lib.hid fun h => by
    unfold rightWay; rw [if_neg h]; rfl
  generalize rightWay ⟨k, ep, cl, hv, fi, nu, ac, rv, tg, ⟨ok, op, oc, ol, os⟩⟩ fr to_ = way at HD HU
  generalize provV ⟨k, ep, cl, hv, fi, nu, ac, rv, tg, ⟨ok, op, oc, ol, os⟩⟩ = pv at HP
  unfold msgV msgCells opCells dgV
  dsimp only
  generalize (oc.toNat : Int) = c at *
  by_cases k4 : k = 4
  · have q4 : (k == 4) = true := by simpa using k4
    have Hk4 := Lib.hid k4
    clear k4
    cases hg : (fr == 0)
    · have HW : Hid (way = (false && (to_ == cl))) := Lib.hid (by have := HD.out (by have := Hk4.out; omega); rw [hg] at this; exact this)
      go_enter Tryz.func63, Tryz.ntmps63
      go_wp2
      go_quiet (fail)
      go_wp2
      rw [HP.out (Value.nilIface) (fun h => by first | rfl | (exfalso; have := Hk4.out; omega)) (fun h => by first | rfl | (exfalso; have := Hk4.out; omega)) (fun _ _ => by first | rfl | (exfalso; have := Hk4.out; omega))]
      go_ret2
      exact ⟨by rw [HW.out]; simp, Fr.drewN (((Fr.refl _ _).alloc _).alloc _) _⟩
    · have HW : Hid (way = (true && (to_ == cl))) := Lib.hid (by have := HD.out (by have := Hk4.out; omega); rw [hg] at this; exact this)
      go_enter Tryz.func63, Tryz.ntmps63
      go_wp2
      go_quiet (fail)
      go_wp2
      rw [HP.out (Value.nilIface) (fun h => by first | rfl | (exfalso; have := Hk4.out; omega)) (fun h => by first | rfl | (exfalso; have := Hk4.out; omega)) (fun _ _ => by first | rfl | (exfalso; have := Hk4.out; omega))]
      go_ret2
      exact ⟨by rw [HW.out]; simp, Fr.drewN (((Fr.refl _ _).alloc _).alloc _) _⟩
  have q4 : (k == 4) = false := by simpa using k4
  by_cases k6 : k = 6
  · have q6 : (k == 6) = true := by simpa using k6
    have Hk4 := Lib.hid k4
    have Hk6 := Lib.hid k6
    clear k4 k6
    cases hg : (fr == 0)
    · have HW : Hid (way = (false && (to_ == cl))) := Lib.hid (by have := HD.out (by have := Hk6.out; omega); rw [hg] at this; exact this)
      go_enter Tryz.func63, Tryz.ntmps63
      go_wp2
      go_quiet (fail)
      go_wp2
      rw [HP.out (Value.nilIface) (fun h => by first | rfl | (exfalso; have := Hk4.out; have := Hk6.out; omega)) (fun h => by first | rfl | (exfalso; have := Hk4.out; have := Hk6.out; omega)) (fun _ _ => by first | rfl | (exfalso; have := Hk4.out; have := Hk6.out; omega))]
      go_ret2
      exact ⟨by rw [HW.out]; simp, Fr.drewN (((Fr.refl _ _).alloc _).alloc _) _⟩
    · have HW : Hid (way = (true && (to_ == cl))) := Lib.hid (by have := HD.out (by have := Hk6.out; omega); rw [hg] at this; exact this)
      go_enter Tryz.func63, Tryz.ntmps63
      go_wp2
      go_quiet (fail)
      go_wp2
      rw [HP.out (Value.nilIface) (fun h => by first | rfl | (exfalso; have := Hk4.out; have := Hk6.out; omega)) (fun h => by first | rfl | (exfalso; have := Hk4.out; have := Hk6.out; omega)) (fun _ _ => by first | rfl | (exfalso; have := Hk4.out; have := Hk6.out; omega))]
      go_ret2
      exact ⟨by rw [HW.out]; simp, Fr.drewN (((Fr.refl _ _).alloc _).alloc _) _⟩
  have q6 : (k == 6) = false := by simpa using k6
  by_cases k5 : k = 5
  · have q5 : (k == 5) = true := by simpa using k5
    have Hk4 := Lib.hid k4
    have Hk6 := Lib.hid k6
    have Hk5 := Lib.hid k5
    clear k4 k6 k5
    cases hg : (fr == 0)
    · have HW : Hid (way = (false && (to_ == cl))) := Lib.hid (by have := HD.out (by have := Hk5.out; omega); rw [hg] at this; exact this)
      go_enter Tryz.func63, Tryz.ntmps63
      go_wp2
      go_quiet (fail)
      go_wp2
      rw [HP.out (Value.iface 122 (.agg #[.int .i64 rv, .int .i64 ok, .int .i64 op, .int .u8 c, .int .i64 ol, .int .i64 os])) (fun h => by first | rfl | (exfalso; have := Hk4.out; have := Hk6.out; have := Hk5.out; omega)) (fun h => by first | rfl | (exfalso; have := Hk4.out; have := Hk6.out; have := Hk5.out; omega)) (fun _ _ => by first | rfl | (exfalso; have := Hk4.out; have := Hk6.out; have := Hk5.out; omega))]
      go_ret2
      exact ⟨by rw [HW.out]; simp, Fr.drewN (((Fr.refl _ _).alloc _).alloc _) _⟩
    · have HW : Hid (way = (true && (to_ == cl))) := Lib.hid (by have := HD.out (by have := Hk5.out; omega); rw [hg] at this; exact this)
      go_enter Tryz.func63, Tryz.ntmps63
      go_wp2
      go_quiet (fail)
      go_wp2
      rw [HP.out (Value.iface 122 (.agg #[.int .i64 rv, .int .i64 ok, .int .i64 op, .int .u8 c, .int .i64 ol, .int .i64 os])) (fun h => by first | rfl | (exfalso; have := Hk4.out; have := Hk6.out; have := Hk5.out; omega)) (fun h => by first | rfl | (exfalso; have := Hk4.out; have := Hk6.out; have := Hk5.out; omega)) (fun _ _ => by first | rfl | (exfalso; have := Hk4.out; have := Hk6.out; have := Hk5.out; omega))]
      go_ret2
      exact ⟨by rw [HW.out]; simp, Fr.drewN (((Fr.refl _ _).alloc _).alloc _) _⟩
  have q5 : (k == 5) = false := by simpa using k5
  by_cases k2 : k = 2
  · have q2 : (k == 2) = true := by simpa using k2
    have Hk4 := Lib.hid k4
    have Hk6 := Lib.hid k6
    have Hk5 := Lib.hid k5
    have Hk2 := Lib.hid k2
    clear k4 k6 k5 k2
    cases hg : (fr == cl)
    · have HW : Hid (way = (false && (to_ == 0))) := Lib.hid (by have := HU.out (by have := Hk4.out; have := Hk6.out; have := Hk5.out; have := Hk2.out; omega); rw [hg] at this; exact this)
      go_enter Tryz.func63, Tryz.ntmps63
      go_wp2
      go_quiet (fail)
      go_wp2
      rw [HP.out (Value.iface 125 (.agg #[.int .i64 tg, .int .i64 ok, .int .i64 op, .int .u8 c, .int .i64 ol, .int .i64 os])) (fun h => by first | rfl | (exfalso; have := Hk4.out; have := Hk6.out; have := Hk5.out; have := Hk2.out; omega)) (fun h => by first | rfl | (exfalso; have := Hk4.out; have := Hk6.out; have := Hk5.out; have := Hk2.out; omega)) (fun _ _ => by first | rfl | (exfalso; have := Hk4.out; have := Hk6.out; have := Hk5.out; have := Hk2.out; omega))]
      go_ret2
      exact ⟨by rw [HW.out]; simp, Fr.drewN (((Fr.refl _ _).alloc _).alloc _) _⟩
    · have HW : Hid (way = (true && (to_ == 0))) := Lib.hid (by have := HU.out (by have := Hk4.out; have := Hk6.out; have := Hk5.out; have := Hk2.out; omega); rw [hg] at this; exact this)
      go_enter Tryz.func63, Tryz.ntmps63
      go_wp2
      go_quiet (fail)
      go_wp2
      rw [HP.out (Value.iface 125 (.agg #[.int .i64 tg, .int .i64 ok, .int .i64 op, .int .u8 c, .int .i64 ol, .int .i64 os])) (fun h => by first | rfl | (exfalso; have := Hk4.out; have := Hk6.out; have := Hk5.out; have := Hk2.out; omega)) (fun h => by first | rfl | (exfalso; have := Hk4.out; have := Hk6.out; have := Hk5.out; have := Hk2.out; omega)) (fun _ _ => by first | rfl | (exfalso; have := Hk4.out; have := Hk6.out; have := Hk5.out; have := Hk2.out; omega))]
      go_ret2
      exact ⟨by rw [HW.out]; simp, Fr.drewN (((Fr.refl _ _).alloc _).alloc _) _⟩
  have q2 : (k == 2) = false := by simpa using k2
  have Hk4 := Lib.hid k4
  have Hk6 := Lib.hid k6
  have Hk5 := Lib.hid k5
  have Hk2 := Lib.hid k2
  clear k4 k6 k5 k2
  cases hg : (fr == cl)
  · have HW : Hid (way = (false && (to_ == 0))) := Lib.hid (by have := HU.out (by have := Hk4.out; have := Hk6.out; have := Hk5.out; have := Hk2.out; omega); rw [hg] at this; exact this)
    go_enter Tryz.func63, Tryz.ntmps63
    go_wp2
    go_quiet (fail)
    go_wp2
    rw [HP.out (Value.nilIface) (fun h => by first | rfl | (exfalso; have := Hk4.out; have := Hk6.out; have := Hk5.out; have := Hk2.out; omega)) (fun h => by first | rfl | (exfalso; have := Hk4.out; have := Hk6.out; have := Hk5.out; have := Hk2.out; omega)) (fun _ _ => by first | rfl | (exfalso; have := Hk4.out; have := Hk6.out; have := Hk5.out; have := Hk2.out; omega))]
    go_ret2
    exact ⟨by rw [HW.out]; simp, Fr.drewN (((Fr.refl _ _).alloc _).alloc _) _⟩
  · have HW : Hid (way = (true && (to_ == 0))) := Lib.hid (by have := HU.out (by have := Hk4.out; have := Hk6.out; have := Hk5.out; have := Hk2.out; omega); rw [hg] at this; exact this)
    go_enter Tryz.func63, Tryz.ntmps63
    go_wp2
    go_quiet (fail)
    go_wp2
    rw [HP.out (Value.nilIface) (fun h => by first | rfl | (exfalso; have := Hk4.out; have := Hk6.out; have := Hk5.out; have := Hk2.out; omega)) (fun h => by first | rfl | (exfalso; have := Hk4.out; have := Hk6.out; have := Hk5.out; have := Hk2.out; omega)) (fun _ _ => by first | rfl | (exfalso; have := Hk4.out; have := Hk6.out; have := Hk5.out; have := Hk2.out; omega))]
    go_ret2
    exact ⟨by rw [HW.out]; simp, Fr.drewN (((Fr.refl _ _).alloc _).alloc _) _⟩
end Go.Proofs.YtodkhoclbhdihaaGreatDoor
