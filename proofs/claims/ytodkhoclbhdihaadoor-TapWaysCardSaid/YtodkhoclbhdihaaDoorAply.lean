/-
  Contract of doc's Apply.
-/
import Derived.Test.YtodkhoclbhdihaaDoorDoc
namespace Go.Proofs.YtodkhoclbhdihaaDoor
open Go.RowKit

section
variable {P : Program} {w : World} {t : TypeId} {s n c : Nat} {A : Option Addr}
theorem sl_hi (ht : P.underlying t = some (.slice (P.elem t))) (hs : ∀ w, (sizeOf (P.elem t)).run P w = .ok s w) (p : Int) (h0 : 0 ≤ p) (hp : p ≤ n) (hc : n ≤ c) :
    (Instr.slice t (.slice A n c) none (some (.int .i64 p)) none).run P w = .ok (.slice A p.toNat c) w := by
  rw [run_slice_h w t A n c ht .i64 p h0 (by omega), hs]
  simp only [Result.andThen_ok, sliced, Nat.sub_zero, Nat.zero_mul]
  cases A <;> simp [Addr.add_zero']
theorem sl_lo (ht : P.underlying t = some (.slice (P.elem t))) (hs : ∀ w, (sizeOf (P.elem t)).run P w = .ok s w) (p : Int) (h0 : 0 ≤ p) (hp : p ≤ n) :
    (Instr.slice t (.slice A n c) (some (.int .i64 p)) none none).run P w = .ok (.slice (if c = p.toNat then A else A.map (·.add (p.toNat * s))) (n - p.toNat) (c - p.toNat)) w := by
  rw [run_slice_l w t A n c ht .i64 p h0 hp, hs]
  rfl
end

def elemCells (e : GElem) : List Value := [.int .u8 (e.ch.toNat : Int), .int .i64 e.client, .int .i64 e.seq]
def els (d : List GElem) : List Value := d.flatMap elemCells
def ops (d : List GOp) : List Value := d.flatMap opCells
abbrev ET : TypeId := 81
abbrev EL : TypeId := 50
theorem els_len (d : List GElem) : (els d).length = d.length * 3 := by
  unfold els
  induction d with
  | nil => rfl
  | cons a d ih => rw [List.flatMap_cons, List.length_append, ih, List.length_cons]; simp [elemCells]; omega
theorem els_one (d : List GElem) : ∀ v ∈ els d, v.oneCell' = true := by
  intro v hv
  obtain ⟨e, _, he⟩ := List.mem_flatMap.1 hv
  simp only [elemCells, List.mem_cons, List.not_mem_nil, or_false] at he
  rcases he with rfl | rfl | rfl <;> rfl
theorem els_take (d : List GElem) (k : Nat) : (els d).take (k * 3) = els (d.take k) := by
  unfold els
  induction d generalizing k with
  | nil => simp
  | cons a d ih =>
    cases k with
    | zero => simp
    | succ k =>
      rw [List.flatMap_cons, List.take_succ_cons, List.flatMap_cons, show (k + 1) * 3 = (elemCells a).length + k * 3 by simp [elemCells]; omega, List.take_length_add_append, ih]
theorem els_drop (d : List GElem) (k : Nat) : (els d).drop (k * 3) = els (d.drop k) := by
  unfold els
  induction d generalizing k with
  | nil => simp
  | cons a d ih =>
    cases k with
    | zero => simp
    | succ k =>
      rw [List.flatMap_cons, List.drop_succ_cons, show (k + 1) * 3 = (elemCells a).length + k * 3 by simp [elemCells]; omega, List.drop_length_add_append, ih]
theorem els_app (a b : List GElem) : els (a ++ b) = els a ++ els b := by simp [els]
theorem elem_info : (Tryd.prog.info? ET).map (fun i => (i.zero, i.size, i.bytes)) = some (some (.agg #[.int .u8 0, .int .i64 0, .int .i64 0]), 3, 24) := by kernel_rfl
theorem elem_size (w : World) : (sizeOf (Tryd.prog.elem EL)).run Tryd.prog w = .ok 3 w := by kernel_rfl
theorem elem_el : Tryd.prog.underlying EL = some (.slice (Tryd.prog.elem EL)) := by kernel_rfl
/-- append to a list of characters. -/
theorem app_el {base : Nat} {w : World} {v : Value} {n m c : Nat} {xs news : List Value} {A : Option Addr} (hown : w.ownsRow base ET 3 v n xs) (hr : Reads w 3 A m news) (h1 : ∀ u ∈ news, u.oneCell' = true) (hn : n + m ≤ 1000000) (hbase : base ≤ w.heap.size) (ty : TypeId) :
    ∃ v' w', (Builtin.append_ #[EL, EL] ty #[v, .slice A m c]).run Tryd.prog w = .ok v' w' ∧ w'.ownsRow base ET 3 v' (n + m) (xs ++ news) ∧ Fr (fun k => v.ownBlock = some k) w w' ∧ (v'.ownBlock = v.ownBlock ∨ v'.ownBlock = some w.heap.size) :=
  app_any (bytes := 24) Tryd.underlying50 elem_info rfl (by omega) hown hr h1 hn (by omega) hbase

/-- One more append to a list that is new since world W. -/
theorem app_step {W w : World} {v : Value} {n m c : Nat} {xs news : List Value} {A : Option Addr} (hf : Fr None' W w) (hown : w.ownsRow W.heap.size ET 3 v n xs) (hr : Reads w 3 A m news) (h1 : ∀ u ∈ news, u.oneCell' = true) (hn : n + m ≤ 1000000) (ty : TypeId) :
    ∃ v' w', (Builtin.append_ #[EL, EL] ty #[v, .slice A m c]).run Tryd.prog w = .ok v' w' ∧ w'.ownsRow W.heap.size ET 3 v' (n + m) (xs ++ news) ∧ Fr None' W w' ∧
      ∀ g t cs, Blk w g t cs → v.ownBlock ≠ some g → Blk w' g t cs ∧ v'.ownBlock ≠ some g := by
  obtain ⟨v', w', h1, h2, h3, h4⟩ := app_el hown hr h1 hn hf.size ty
  refine ⟨v', w', h1, h2, hf.trans h3 fun i hi hs => ?_, fun g t cs hg hne => ⟨hg.fr h3 hne, fun e => ?_⟩⟩
  · have := (hown.lt i hs).1
    omega
  · rcases h4 with h4 | h4
    · exact hne (h4.symm.trans e)
    · rw [h4] at e
      cases e
      have := hg.lt
      omega
theorem fits_bounds {n : Int} {o : GOp} (h : fitsF n o = 0) : 0 ≤ o.kind ∧ o.kind ≤ 2 ∧ 0 ≤ n ∧ n ≤ 4096 ∧ 0 ≤ o.pos ∧ (o.kind = 1 → o.pos ≤ n) ∧ (o.kind = 2 → o.pos < n) ∧ 1 ≤ o.client ∧ o.client ≤ 64 ∧ 1 ≤ o.seq ∧ o.seq ≤ 64 := by
  have h := h
  unfold fitsF validF posF at h
  by_cases hk : o.kind < 0 ∨ 2 < o.kind
  · simp [if_pos hk] at h
  rw [if_neg hk] at h
  by_cases hc : o.client < 1 ∨ 64 < o.client ∨ o.seq < 1 ∨ 64 < o.seq
  · simp [if_pos hc] at h
  rw [if_neg hc] at h
  by_cases hp : o.pos < 0
  · repeat' split at h
    all_goals first | omega | (simp at h; done)
  · repeat' split at h
    all_goals first | omega | (refine ⟨?_, ?_, ?_, ?_, ?_, ?_, ?_, ?_, ?_, ?_, ?_⟩ <;> omega)

/-- What Apply answers. -/
def ApplyPost (w : World) (d : List GElem) (o : GOp) (e : Ending) (w' : World) : Prop :=
  match applyF d o with
  | .error k => e = .returned (.tuple #[.slice none 0 0, .int .i64 k]) ∧ Fr None' w w'
  | .ok d' => ∃ v, e = .returned (.tuple #[v, .int .i64 0]) ∧ w'.ownsRow w.heap.size ET 3 v d'.length (els d') ∧ Fr None' w w'

set_option maxHeartbeats 4000000 in
theorem apply_any (A : Option Addr) (n c : Nat) (d : List GElem) (o : GOp) (w : World) (hr : Reads w 3 A n (els d)) (hc : n ≤ c) :
    Calls Tryd.prog 41 #[.slice A n c, opV o] w fun e w' => ApplyPost w d o e w' := by
  have hl : d.length = n := by have := hr.1; rw [els_len] at this; omega
  have hfa := fun w => fits_any n o w
  have HP := Lib.hid (fits_bounds (n := (n : Int)) (o := o))
  unfold ApplyPost applyF
  rw [hl]
  have HD : Hid (fitsF (n : Int) o = 0 → (o.kind = 1 → doneF d o = d.take o.pos.toNat ++ [elemOf o] ++ d.drop o.pos.toNat) ∧ (o.kind = 2 → doneF d o = d.take o.pos.toNat ++ d.drop (o.pos.toNat + 1)) ∧ (o.kind = 0 → doneF d o = d)) := Lib.hid fun _ => by
    unfold doneF
    refine ⟨fun h => by rw [if_pos h], fun h => by rw [if_neg (by omega), if_pos h], fun h => by rw [if_neg (by omega), if_neg (by omega)]⟩
  have HE : Hid (elemCells (elemOf o) = [.int .u8 (o.ch.toNat : Int), .int .i64 o.client, .int .i64 o.seq]) := Lib.hid rfl
  generalize elemOf o = eo at HD HE
  generalize doneF d o = dn at *
  generalize fitsF (n : Int) o = r at *
  have Hf := Lib.hid hfa
  have HR := Lib.hid hr
  have HL := Lib.hid hl
  unfold opV opCells at *
  obtain ⟨k, p, ch, cl, sq⟩ := o
  dsimp only at *
  have HB : Hid (Blk (w.alloc (.cells #[.int .i64 k, .int .i64 p, .int .u8 (ch.toNat : Int), .int .i64 cl, .int .i64 sq] 23)) w.heap.size 23 #[.int .i64 k, .int .i64 p, .int .u8 (ch.toNat : Int), .int .i64 cl, .int .i64 sq]) := Lib.hid (Blk.new w _ _)
  have HF0 : Hid (Fr None' w (w.alloc (.cells #[.int .i64 k, .int .i64 p, .int .u8 (ch.toNat : Int), .int .i64 cl, .int .i64 sq] 23))) := Lib.hid ((Fr.refl _ _).alloc _)
  clear hfa hr hl
  by_cases hr0 : r = 0
  · subst hr0
    obtain ⟨b1, b2, b3, b4, b5, b6, b7, b8, b9, b10, b11⟩ := HP.out rfl
    obtain ⟨d1, d2, d3⟩ := HD.out rfl
    have D1 := Lib.hid d1
    have D2 := Lib.hid d2
    have D3 := Lib.hid d3
    clear d1 d2 d3
    simp only [if_true]
    have e1 : IntKind.i64.wrap ((n : Int) + 1) = (n : Int) + 1 := IntWalk.i64_in _ (by omega)
    go_enter Tryd.func41, Tryd.ntmps41
    go_wp2_with fail
    refine (Hf.out _).mono ?_
    rintro e w1 ⟨rfl, hf1⟩
    dsimp only
    have HF1 := Lib.hid (HF0.out.trans' hf1)
    have hb1 := HB.out.fr hf1 (fun h => h)
    have hle : w.heap.size ≤ w1.heap.size := HF1.out.size
    obtain ⟨w2, hmk, hown, hf2⟩ := mk_any (P := Tryd.prog) (w := w1) (base := w.heap.size) (e := ET) (size := 3) (bytes := 24) Tryd.underlying50 elem_info (n + 1) ((n : Int) + 1) (by omega) (by omega) (by omega) hle
    have hb2 := hb1.fr hf2 (fun h => h)
    have HF2 := Lib.hid (HF1.out.trans' hf2)
    have hR2 := HR.out.frn HF2.out
    have hne : w1.heap.size ≠ w.heap.size := by have := hb1.lt; omega
    have Hb2 := Lib.hid hb2
    have c0 : w2.cell? ⟨w.heap.size, 0, none⟩ = some (.int .i64 k) := Blk.cell hb2 0
    have c1 : w2.cell? ⟨w.heap.size, 1, none⟩ = some (.int .i64 p) := Blk.cell hb2 1
    have hv2 : (Value.slice (some ⟨w1.heap.size, 0, none⟩) 0 (n + 1)).ownBlock ≠ some w.heap.size := by
      intro h
      simp [Value.ownBlock] at h
      exact hne h
    have c2 : w2.cell? ⟨w.heap.size, 2, none⟩ = some (.int .u8 (ch.toNat : Int)) := Blk.cell hb2 2
    have Hown := Lib.hid hown
    have Hv2 := Lib.hid hv2
    have HNE := Lib.hid hne
    have HLE := Lib.hid hle
    have HR2 := Lib.hid hR2
    clear hf1 hf2 hb1 hb2 hown hv2 hne hle hR2 c2
    by_cases hk1 : k = 1
    · have q1 : (k == 1) = true := by simpa using hk1
      have hp := b6 hk1
      have hs1 : ∀ w', (Instr.slice EL (.slice A n c) none (some (.int .i64 p)) none).run Tryd.prog w' = .ok (.slice A p.toNat c) w' := fun w' => sl_hi elem_el elem_size p b5 hp hc
      have hs2 : ∀ w', (Instr.slice EL (.slice A n c) (some (.int .i64 p)) none none).run Tryd.prog w' = .ok (.slice (if c = p.toNat then A else A.map (·.add (p.toNat * 3))) (n - p.toNat) (c - p.toNat)) w' := fun w' => sl_lo elem_el elem_size p b5 hp
      obtain ⟨v3, w3, r3, o3, f3, k3⟩ := app_step (c := c) HF2.out Hown.out (HR2.out.take (k := p.toNat) (by omega)) (by rw [els_take]; exact els_one _) (by omega) 50
      obtain ⟨hb3, hv3⟩ := k3 _ _ _ Hb2.out Hv2.out
      have f3a := f3.alloc (.cells #[.int .u8 (ch.toNat : Int), .int .i64 cl, .int .i64 sq] ET)
      obtain ⟨v4, w4, r4, o4, f4, k4⟩ := app_step (c := 1) f3a (o3.alloc _) (one_reads w3 ET [.int .u8 (ch.toNat : Int), .int .i64 cl, .int .i64 sq]) (by rw [← HE.out]; have := els_one [eo]; unfold els at this; simpa using this) (by omega) 50
      obtain ⟨hb4, hv4⟩ := k4 _ _ _ (hb3.alloc _) hv3
      obtain ⟨v5, w5, r5, o5, f5, k5⟩ := app_step (c := c - p.toNat) f4 o4 ((HR.out.frn f4).cut (k := p.toNat) (by omega) hc) (by rw [els_drop]; exact els_one _) (by omega) 50
      have c31 : w3.cell? ⟨w.heap.size, 1, none⟩ = some (.int .i64 p) := Blk.cell hb3 1
      have c32 : w3.cell? ⟨w.heap.size, 2, none⟩ = some (.int .u8 (ch.toNat : Int)) := Blk.cell hb3 2
      have c33 : w3.cell? ⟨w.heap.size, 3, none⟩ = some (.int .i64 cl) := Blk.cell hb3 3
      have c34 : w3.cell? ⟨w.heap.size, 4, none⟩ = some (.int .i64 sq) := Blk.cell hb3 4
      have c41 : w4.cell? ⟨w.heap.size, 1, none⟩ = some (.int .i64 p) := Blk.cell hb4 1
      have HO : Hid (w5.ownsRow w.heap.size ET 3 v5 dn.length (els dn)) := by
        show w5.ownsRow w.heap.size ET 3 v5 dn.length (els dn)
        have hd : dn.length = 0 + p.toNat + 1 + (n - p.toNat) := by
          rw [D1.out hk1]
          simp [HL.out]
          omega
        have he : els dn = ([] ++ (els d).take (p.toNat * 3) ++ [.int .u8 (ch.toNat : Int), .int .i64 cl, .int .i64 sq]) ++ (els d).drop (p.toNat * 3) := by
          rw [D1.out hk1, els_app, els_app, els_take, els_drop, ← HE.out]
          simp [els]
        rw [hd, he]
        exact o5
      have HF5 := Lib.hid f5
      have HK := Lib.hid hk1
      clear hk1 o3 o4 o5 f3 f3a f4 f5 k3 k4 k5 hb3 hb4 hv3 hv4
      iterate 70 (first | (at_builtin; first | (refine wpList_app rfl _ _ _ rfl rfl rfl r3 ?_; clear r3) | (refine wpList_app rfl _ _ _ rfl rfl rfl r4 ?_; clear r4) | (refine wpList_app rfl _ _ _ rfl rfl rfl r5 ?_; clear r5)) | go_step)
      iterate 50 (first | (at_builtin; first | (refine wpList_app rfl _ _ _ rfl rfl rfl r3 ?_; clear r3) | (refine wpList_app rfl _ _ _ rfl rfl rfl r4 ?_; clear r4) | (refine wpList_app rfl _ _ _ rfl rfl rfl r5 ?_; clear r5)) | go_step)
      iterate 46 (first | (at_builtin; first | (refine wpList_app rfl _ _ _ rfl rfl rfl r3 ?_; clear r3) | (refine wpList_app rfl _ _ _ rfl rfl rfl r4 ?_; clear r4) | (refine wpList_app rfl _ _ _ rfl rfl rfl r5 ?_; clear r5)) | go_step)
      go_ret2
      exact ⟨_, rfl, HO.out, HF5.out⟩
    by_cases hk2 : k = 2
    · have q1 : (k == 1) = false := by simpa using hk1
      have q2 : (k == 2) = true := by simpa using hk2
      have hp := b7 hk2
      have e2 : IntKind.i64.wrap (p + 1) = p + 1 := IntWalk.i64_in _ (by omega)
      have et : (p + 1).toNat = p.toNat + 1 := by omega
      have hs1 : ∀ w', (Instr.slice EL (.slice A n c) none (some (.int .i64 p)) none).run Tryd.prog w' = .ok (.slice A p.toNat c) w' := fun w' => sl_hi elem_el elem_size p b5 (by omega) hc
      have hs2 : ∀ w', (Instr.slice EL (.slice A n c) (some (.int .i64 (p + 1))) none none).run Tryd.prog w' = .ok (.slice (if c = p.toNat + 1 then A else A.map (·.add ((p.toNat + 1) * 3))) (n - (p.toNat + 1)) (c - (p.toNat + 1))) w' := fun w' => by
        have := sl_lo (w := w') (c := c) (A := A) (n := n) elem_el elem_size (p + 1) (by omega) (by omega)
        rwa [et] at this
      obtain ⟨v3, w3, r3, o3, f3, k3⟩ := app_step (c := c) HF2.out Hown.out (HR2.out.take (k := p.toNat) (by omega)) (by rw [els_take]; exact els_one _) (by omega) 50
      obtain ⟨hb3, hv3⟩ := k3 _ _ _ Hb2.out Hv2.out
      obtain ⟨v5, w5, r5, o5, f5, k5⟩ := app_step (c := c - (p.toNat + 1)) f3 o3 ((HR.out.frn f3).cut (k := p.toNat + 1) (by omega) hc) (by rw [els_drop]; exact els_one _) (by omega) 50
      have c31 : w3.cell? ⟨w.heap.size, 1, none⟩ = some (.int .i64 p) := Blk.cell hb3 1
      have HO : Hid (w5.ownsRow w.heap.size ET 3 v5 dn.length (els dn)) := by
        show w5.ownsRow w.heap.size ET 3 v5 dn.length (els dn)
        have hd : dn.length = 0 + p.toNat + (n - (p.toNat + 1)) := by
          rw [D2.out hk2]
          simp [HL.out]
          omega
        have he : els dn = ([] ++ (els d).take (p.toNat * 3)) ++ (els d).drop ((p.toNat + 1) * 3) := by
          rw [D2.out hk2, els_app, els_take, els_drop]
          simp
        rw [hd, he]
        exact o5
      have HF5 := Lib.hid f5
      have HK := Lib.hid hk2
      clear hk1 hk2 o3 o5 f3 f5 k3 k5 hb3 hv3
      iterate 70 (first | (at_builtin; first | (refine wpList_app rfl _ _ _ rfl rfl rfl r3 ?_; clear r3) | (refine wpList_app rfl _ _ _ rfl rfl rfl r5 ?_; clear r5)) | go_step)
      iterate 50 (first | (at_builtin; first | (refine wpList_app rfl _ _ _ rfl rfl rfl r3 ?_; clear r3) | (refine wpList_app rfl _ _ _ rfl rfl rfl r5 ?_; clear r5)) | go_step)
      iterate 25 (first | (at_builtin; first | (refine wpList_app rfl _ _ _ rfl rfl rfl r3 ?_; clear r3) | (refine wpList_app rfl _ _ _ rfl rfl rfl r5 ?_; clear r5)) | go_step)
      go_ret2
      exact ⟨_, rfl, HO.out, HF5.out⟩
    · have q1 : (k == 1) = false := by simpa using hk1
      have q2 : (k == 2) = false := by simpa using hk2
      obtain ⟨v5, w5, r5, o5, f5, k5⟩ := app_step (c := c) HF2.out Hown.out HR2.out (els_one _) (by omega) 50
      have HO : Hid (w5.ownsRow w.heap.size ET 3 v5 dn.length (els dn)) := by
        show w5.ownsRow w.heap.size ET 3 v5 dn.length (els dn)
        rw [D3.out (by omega), HL.out]
        simpa using o5
      have HF5 := Lib.hid f5
      clear hk1 hk2 o5 f5 k5
      iterate 70 (first | (at_builtin; first | (refine wpList_app rfl _ _ _ rfl rfl rfl r5 ?_; clear r5)) | go_step)
      go_wp2_with (at_builtin; first | (refine wpList_app rfl _ _ _ rfl rfl rfl r5 ?_; clear r5))
      go_ret2
      exact ⟨_, rfl, HO.out, HF5.out⟩
  · have hz : (r != 0) = true := by simpa using hr0
    have HZ := Lib.hid hr0
    clear hr0
    simp only [HZ.out, if_false]
    go_enter Tryd.func41, Tryd.ntmps41
    go_wp2_with fail
    refine (Hf.out _).mono ?_
    rintro e w1 ⟨rfl, hf1⟩
    have HF1 := Lib.hid (HF0.out.trans' hf1)
    clear hf1
    go_wp2
    go_ret2
    exact ⟨rfl, HF1.out⟩
end Go.Proofs.YtodkhoclbhdihaaDoor
