/-
  Maps of which entries are added and overwritten, none removed: an association list, looked up, written, ranged over. No program in it.
-/
import Derived.Test.YtodkhoclbhdihaaDoorBase
import Derived.Maps.RangeRun
namespace Go.Proofs.YtodkhoclbhdihaaDoor
open Go.ChangeMaps (setBlock)

section
variable {κ ν : Type}
section
variable [DecidableEq κ]
def get : List (κ × ν) → κ → Option ν
  | [], _ => none
  | (a, b) :: l, k => if a = k then some b else get l k
def put : List (κ × ν) → κ → ν → List (κ × ν)
  | [], k, v => [(k, v)]
  | (a, b) :: l, k, v => if a = k then (k, v) :: l else (a, b) :: put l k v
theorem get_put (l : List (κ × ν)) (k k' : κ) (v : ν) : get (put l k v) k' = if k = k' then some v else get l k' := by
  induction l with
  | nil => rfl
  | cons p l ih =>
    obtain ⟨a, b⟩ := p
    by_cases h : a = k
    · subst h
      by_cases h' : a = k' <;> simp [put, get, h']
    · by_cases h' : a = k'
      · have h2 : ¬ k = k' := fun e => h (h'.trans e.symm)
        subst h'
        simp [put, get, h, h2]
      · simp [put, get, h, h', ih]
/-- The place of a key, and what is there. -/
def ix : List (κ × ν) → κ → Nat → Option (Nat × ν)
  | [], _, _ => none
  | (a, b) :: l, k, i => if a = k then some (i, b) else ix l k (i + 1)
theorem ix_get (l : List (κ × ν)) (k : κ) (i : Nat) : (ix l k i).map (·.2) = get l k := by
  induction l generalizing i with
  | nil => rfl
  | cons p l ih =>
    obtain ⟨a, b⟩ := p
    unfold ix get
    by_cases h : a = k
    · rw [if_pos h, if_pos h]; rfl
    · rw [if_neg h, if_neg h, ih]

end
variable (kv : κ → Value) (vv : ν → Value)
def mkE (q : (κ × ν) × Nat) : MapEntry := { key := kv q.1.1, val := vv q.1.2, born := q.2 }
def ents (i : Nat) (l : List (κ × ν)) : List MapEntry := (l.zipIdx i).map (mkE kv vv)
/-- Block b is a map with just these entries. -/
def MapAt (w : World) (b : Nat) (l : List (κ × ν)) : Prop := w.heap[b]? = some (.map (ents kv vv 0 l).toArray l.length)
@[simp] theorem ents_nil (i : Nat) : ents kv vv i [] = [] := rfl
theorem ents_cons (i : Nat) (k : κ) (v : ν) (l : List (κ × ν)) : ents kv vv i ((k, v) :: l) = { key := kv k, val := vv v, born := i } :: ents kv vv (i + 1) l := by
  simp [ents, List.zipIdx_cons, mkE]
theorem ents_append (i : Nat) (l l' : List (κ × ν)) : ents kv vv i (l ++ l') = ents kv vv i l ++ ents kv vv (i + l.length) l' := by
  simp [ents, List.zipIdx_append]
theorem ents_put_none [DecidableEq κ] (l : List (κ × ν)) (k : κ) (v : ν) (i j : Nat) (h : ix l k j = none) : put l k v = l ++ [(k, v)] := by
  induction l generalizing i j with
  | nil => rfl
  | cons p l ih =>
    obtain ⟨a, b⟩ := p
    unfold ix at h
    by_cases ha : a = k
    · rw [if_pos ha] at h; cases h
    · rw [if_neg ha] at h
      unfold put
      rw [if_neg ha, ih (i + 1) (j + 1) h]
      rfl
theorem ents_put_some [DecidableEq κ] (l : List (κ × ν)) (k : κ) (v v0 : ν) (i j m : Nat) (h : ix l k j = some (m, v0)) : ∃ n, m = j + n ∧ n < l.length ∧ ((ents kv vv i l)[n]?).map (·.key) = some (kv k) ∧ (ents kv vv i l).modify n (fun e => { e with key := kv k, val := vv v }) = ents kv vv i (put l k v) ∧ (put l k v).length = l.length := by
  induction l generalizing i j with
  | nil => cases h
  | cons p l ih =>
    obtain ⟨a, b⟩ := p
    unfold ix at h
    by_cases ha : a = k
    · rw [if_pos ha] at h
      cases h
      refine ⟨0, rfl, by simp, ?_, ?_, ?_⟩
      · rw [ents_cons, ha]; rfl
      · unfold put
        rw [if_pos ha, ents_cons, ents_cons]
        rfl
      · unfold put
        rw [if_pos ha]
        simp
    · rw [if_neg ha] at h
      obtain ⟨n, hn, hlt, hk, hm, hl⟩ := ih (i + 1) (j + 1) h
      refine ⟨n + 1, by omega, by simp; omega, ?_, ?_, ?_⟩
      · rw [ents_cons, List.getElem?_cons_succ]; exact hk
      · unfold put
        rw [if_neg ha, ents_cons, ents_cons, List.modify_succ_cons, hm]
      · unfold put
        rw [if_neg ha]
        simp [hl]

/-- What lookups and stores ask of a key's type. -/
structure KeyOk [DecidableEq κ] (P : Program) (kt : TypeId) (kv : κ → Value) : Prop where
  check : ∀ (w : World) (em : Bool) (k : κ), (Instr.checkKey em 10000 kt (kv k)).run P w = .ok () w
  find : ∀ {ν : Type} (w : World) (vv : ν → Value) (l : List (κ × ν)) (k : κ), (Instr.findKey kt (kv k) (ents kv vv 0 l)).run P w = .ok ((ix l k 0).map fun p => (p.1, vv p.2)) w
  stays : ∀ (w : World) (k : κ), (Instr.keyThatStays (kv k) (kv k)).run P w = .ok (kv k) w

variable {kv vv} {P : Program}
theorem findNow_ents [DecidableEq κ] {d : TypeDesc} (hd : ∀ a b, Instr.sameNow d (kv a) (kv b) = some (decide (a = b))) (k : κ) (l : List (κ × ν)) (i j : Nat) :
    Instr.findNow d (kv k) (ents kv vv i l) j = some ((ix l k j).map fun p => (p.1, vv p.2)) := by
  induction l generalizing i j with
  | nil => rfl
  | cons p l ih =>
    obtain ⟨a, b⟩ := p
    rw [ents_cons]
    unfold ix Instr.findNow
    rw [hd]
    by_cases h : a = k
    · rw [if_pos h, decide_eq_true h.symm]; rfl
    · rw [if_neg h, decide_eq_false (fun e => h e.symm), ih]
theorem findAsking_ents [DecidableEq κ] {kt : TypeId} (heq : ∀ (w : World) (a b : κ), (Op.equal kt (kv a) (kv b)).run P w = .ok (decide (a = b)) w) (w : World) (k : κ) (l : List (κ × ν)) (i j : Nat) :
    (Instr.findAsking kt (kv k) (ents kv vv i l) j).run P w = .ok ((ix l k j).map fun p => (p.1, vv p.2)) w := by
  induction l generalizing i j with
  | nil => rfl
  | cons p l ih =>
    obtain ⟨a, b⟩ := p
    rw [ents_cons]
    unfold ix Instr.findAsking
    simp only [Sem.run_bind, heq, Result.andThen_ok]
    by_cases h : a = k
    · rw [if_pos h, decide_eq_true h.symm]; rfl
    · rw [if_neg h, decide_eq_false (fun e => h e.symm)]
      simp only [Bool.false_eq_true, if_false]
      exact ih _ _
theorem key_now [DecidableEq κ] {kt : TypeId} {d : TypeDesc} (hu : P.underlying kt = some d) (hd : ∀ a b, Instr.sameNow d (kv a) (kv b) = some (decide (a = b))) (hk : ∀ k, MapKept.IsKey d (kv k)) : KeyOk P kt kv :=
  ⟨fun _ em k => MapKept.run_checkKey hu (hk k) em 9999, fun _ _ l k => MapKept.run_findKey hu (findNow_ents hd k l 0 0), fun _ k => MapKept.run_keyThatStays (hk k)⟩
theorem key_asking [DecidableEq κ] {kt : TypeId} {d : TypeDesc} (hu : P.underlying kt = some d) (hd : ∀ a b, Instr.sameNow d (kv a) (kv b) = none) (heq : ∀ (w : World) (a b : κ), (Op.equal kt (kv a) (kv b)).run P w = .ok (decide (a = b)) w)
    (hc : ∀ (w : World) (em : Bool) (k : κ), (Instr.checkKey em 10000 kt (kv k)).run P w = .ok () w) (hs : ∀ k, Instr.sameBits 10000 (kv k) (kv k) = true) : KeyOk P kt kv := by
  refine ⟨hc, fun w vv l k => ?_, fun w k => by simp [Instr.keyThatStays, hs k]⟩
  cases l with
  | nil => simp [Instr.findKey, run_underlying hu, Instr.findNow, ix]
  | cons p l =>
    obtain ⟨a, b⟩ := p
    have := findAsking_ents (vv := vv) heq w k ((a, b) :: l) 0 0
    rw [ents_cons] at this ⊢
    simp only [Instr.findKey, Sem.run_bind, run_underlying hu, Result.andThen_ok, Instr.findNow, hd]
    exact this

variable {w : World} {b : Nat} {l : List (κ × ν)} {mt kt et : TypeId} {z : Value}
theorem MapAt.lt (h : MapAt kv vv w b l) : b < w.heap.size := lt_of_heap h
theorem MapAt.fr {w' : World} {S : Nat → Prop} (h : MapAt kv vv w b l) (hf : Fr S w w') (hs : ¬ S b) : MapAt kv vv w' b l := (hf.block b h.lt hs).trans h
theorem MapAt.look2 [DecidableEq κ] (h : MapAt kv vv w b l) (hm : P.underlying mt = some (.map kt et)) (K : KeyOk P kt kv) (hz : ∀ w, (zeroValue et).run P w = .ok z w) (k : κ) :
    (Instr.lookup mt (.map (some b)) (kv k) true).run P w = .ok (.tuple #[((get l k).map vv).getD z, .bool (get l k).isSome]) w := by
  rw [← ix_get l k 0]
  have hf := K.find w vv l k
  have hg := MapKept.run_getObj_map (P := P) h
  simp only [Instr.lookup, Sem.run_bind, run_underlying hm, Result.andThen_ok, hg, Sem.run_pure, K.check]
  simp only [hf, Result.andThen_ok]
  cases ix l k 0 with
  | none => simp [hz]
  | some p => simp
theorem MapAt.look1 [DecidableEq κ] (h : MapAt kv vv w b l) (hm : P.underlying mt = some (.map kt et)) (K : KeyOk P kt kv) (hz : ∀ w, (zeroValue et).run P w = .ok z w) (k : κ) :
    (Instr.lookup mt (.map (some b)) (kv k) false).run P w = .ok (((get l k).map vv).getD z) w := by
  rw [← ix_get l k 0]
  have hf := K.find w vv l k
  have hg := MapKept.run_getObj_map (P := P) h
  simp only [Instr.lookup, Sem.run_bind, run_underlying hm, Result.andThen_ok, hg, Sem.run_pure, K.check]
  simp only [hf, Result.andThen_ok]
  cases ix l k 0 with
  | none => simp [hz]
  | some p => simp
/-- The world with that map's block written. -/
def mapSet (kv : κ → Value) (vv : ν → Value) (w : World) (b : Nat) (l : List (κ × ν)) : World := setBlock w b (.map (ents kv vv 0 l).toArray l.length)
theorem MapAt.update [DecidableEq κ] (h : MapAt kv vv w b l) (hm : P.underlying mt = some (.map kt et)) (K : KeyOk P kt kv) (k : κ) (v : ν) :
    (Instr.mapUpdate mt (.map (some b)) (kv k) (vv v)).run P w = .ok () (mapSet kv vv w b (put l k v)) := by
  have hf := K.find w vv l k
  have hg := MapKept.run_getObj_map (P := P) h
  simp only [Instr.mapUpdate, Sem.run_bind, run_underlying hm, Result.andThen_ok, hg, K.check]
  simp only [hf, Result.andThen_ok]
  unfold mapSet setBlock
  cases hx : ix l k 0 with
  | none =>
    rw [ents_put_none l k v 0 0 hx, ents_append]
    simp [MapKept.run_setObj_map _ h, ents, mkE]
  | some p =>
    obtain ⟨m, v0⟩ := p
    obtain ⟨n, rfl, hlt, hk, he, hl⟩ := ents_put_some kv vv l k v v0 0 0 m hx
    rw [Nat.zero_add] at *
    have hk' : (((ents kv vv 0 l).toArray[n]?).map (·.key)).getD (kv k) = kv k := by
      rw [List.getElem?_toArray, hk]; rfl
    have hmod : (ents kv vv 0 l).toArray.modify n (fun e => { e with key := kv k, val := vv v }) = (ents kv vv 0 (put l k v)).toArray := by
      apply Array.ext'
      rw [Array.toList_modify, he]
    simp only [Option.map_some, hk', K.stays, Result.andThen_ok, MapKept.run_setObj_map _ h, hmod, hl, Sem.run_bind]
theorem MapAt.set (h : MapAt kv vv w b l) (l' : List (κ × ν)) : MapAt kv vv (mapSet kv vv w b l') b l' := (MapKept.heap_set h).1
theorem Fr.mapSet {w0 : World} {S : Nat → Prop} (h : Fr S w0 w) {b : Nat} (hb : w0.heap.size ≤ b ∨ S b) (l' : List (κ × ν)) : Fr S w0 (mapSet kv vv w b l') :=
  ⟨h.os, h.tape, h.output, by simpa [Go.Proofs.YtodkhoclbhdihaaDoor.mapSet, setBlock] using h.size, fun k hk hs => by
    have hne : k ≠ b := fun e => by subst e; rcases hb with hb | hb; omega; exact hs hb
    have : (Go.Proofs.YtodkhoclbhdihaaDoor.mapSet kv vv w b l').heap[k]? = w.heap[k]? := by
      unfold Go.Proofs.YtodkhoclbhdihaaDoor.mapSet setBlock
      simp [Ne.symm hne]
    exact this.trans (h.block k hk hs)⟩
theorem MapAt.setFar {κ' ν' : Type} {kv' : κ' → Value} {vv' : ν' → Value} (h : MapAt kv vv w b l) {b' : Nat} (hb : b ≠ b') (l' : List (κ' × ν')) : MapAt kv vv (mapSet kv' vv' w b' l') b l := by
  have : (mapSet kv' vv' w b' l').heap[b]? = w.heap[b]? := by
    unfold mapSet setBlock
    simp [Ne.symm hb]
  exact this.trans h
theorem Blk.mapSet (b' : Nat) {t : TypeId} {cs : Array Value} {g : Nat} (h : Blk w g t cs) (hb : g ≠ b') (l' : List (κ × ν)) : Blk (mapSet kv vv w b' l') g t cs := by
  have : (Go.Proofs.YtodkhoclbhdihaaDoor.mapSet kv vv w b' l').heap[g]? = w.heap[g]? := by
    unfold Go.Proofs.YtodkhoclbhdihaaDoor.mapSet setBlock
    simp [Ne.symm hb]
  exact this.trans h
theorem MapAt.new (w : World) : MapAt kv vv (w.alloc (.map #[] 0)) w.heap.size ([] : List (κ × ν)) := (MapKept.heap_alloc w _).1

/-! ### ranging -/
/-- An iterator in block r over the map in block b: of its entries these are still to come. -/
def Ranging (kv : κ → Value) (vv : ν → Value) (w : World) (r b : Nat) (l rest : List (κ × ν)) : Prop :=
  MapAt kv vv w b l ∧ ∃ seen : Array Nat, w.heap[r]? = some (.mapIter (some b) l.length seen l.length) ∧ rest = ((l.zipIdx 0).filter fun q => !seen.contains q.2).map (·.1)
theorem born_lt (l : List (κ × ν)) : ∀ x ∈ (ents kv vv 0 l).toArray.toList, x.born < l.length := by
  intro x hx
  simp only [ents, List.mem_map] at hx
  obtain ⟨q, hq, rfl⟩ := hx
  have := List.mem_zipIdx hq
  simp only [mkE]
  omega
theorem Ranging.start (h : MapAt kv vv w b l) (hm : P.underlying mt = some (.map kt et)) :
    (Instr.range mt (.map (some b))).run P w = .ok (.pointer (some ⟨w.heap.size, 0, none⟩)) (w.alloc (.mapIter (some b) l.length #[] l.length)) ∧ Ranging kv vv (w.alloc (.mapIter (some b) l.length #[] l.length)) w.heap.size b l l := by
  refine ⟨run_range_map w mt kt et b _ _ hm h, h.fr ((Fr.refl None' w).alloc _) (fun h => h), #[], (MapKept.heap_alloc w _).1, ?_⟩
  have : (l.zipIdx 0).filter (fun q => !(#[] : Array Nat).contains q.2) = l.zipIdx 0 := List.filter_eq_self.2 (by simp)
  rw [this, List.zipIdx_map_fst]
theorem perm_out {α : Type} (L : List (α × Nat)) (p : α × Nat) (hp : p ∈ L) (hn : (L.map (·.2)).Nodup) : L.Perm (p :: L.filter fun q => !(q.2 == p.2)) := by
  induction L with
  | nil => cases hp
  | cons q L ih =>
    have hn' := List.nodup_cons.1 hn
    rcases List.mem_cons.1 hp with rfl | hp'
    · have : (p :: L).filter (fun q => !(q.2 == p.2)) = L := by
        rw [List.filter_cons_of_neg (by simp)]
        refine List.filter_eq_self.2 fun q hq => ?_
        have : q.2 ≠ p.2 := fun e => hn'.1 (List.mem_map.2 ⟨q, hq, e⟩)
        simp [this]
      rw [this]
    · have hne : q.2 ≠ p.2 := fun e => hn'.1 (List.mem_map.2 ⟨p, hp', e.symm⟩)
      rw [List.filter_cons_of_pos (by simp [hne])]
      exact ((ih hp' hn'.2).cons q).trans (List.Perm.swap p q _)
theorem Ranging.next {r : Nat} {rest : List (κ × ν)} (h : Ranging kv vv w r b l rest) (ty : TypeId) (hrb : r ≠ b) :
    (rest = [] ∧ (Instr.next (.pointer (some ⟨r, 0, none⟩)) false ty).run P w = .ok (.tuple #[.bool false]) w) ∨
    ∃ p rest' w', rest.Perm (p :: rest') ∧ (Instr.next (.pointer (some ⟨r, 0, none⟩)) false ty).run P w = .ok (.tuple #[.bool true, kv p.1, vv p.2]) w' ∧ Ranging kv vv w' r b l rest' ∧ Fr (Only r) w w' ∧
      w'.heap.size = w.heap.size ∧ (Instr.entry (.pointer (some ⟨r, 0, none⟩))).run P w' = .ok (.tuple #[kv p.1, vv p.2]) w' := by
  obtain ⟨hm, seen, hr, rfl⟩ := h
  have hnd : ((ents kv vv 0 l).map (·.born)).Nodup := by
    have : (ents kv vv 0 l).map (·.born) = List.range' 0 l.length := by
      rw [← List.zipIdx_map_snd 0 l]
      simp [ents, mkE, Function.comp_def]
    rw [this]
    exact List.nodup_range'
  have hlf : (leftOf (ents kv vv 0 l).toArray seen).toList = ((l.zipIdx 0).filter fun q => !seen.contains q.2).map (mkE kv vv) := by
    unfold leftOf
    rw [Array.toList_filter]
    simp only [ents]
    rw [List.filter_map]
    rfl
  have hnz : ((l.zipIdx 0).map (·.2)).Nodup := by rw [List.zipIdx_map_snd]; exact List.nodup_range'
  rcases run_next_at (P := P) w ty r b l.length l.length seen (ents kv vv 0 l).toArray l.length hr hm (born_lt l) (Nat.le_refl _) with ⟨h0, hrun⟩ | ⟨e, he, w1, hal, hrun⟩
  · left
    refine ⟨?_, hrun⟩
    have := congrArg List.length hlf
    rw [Array.length_toList, h0, List.length_map] at this
    rw [List.eq_nil_of_length_eq_zero this.symm]
    rfl
  · right
    rw [hlf] at he
    obtain ⟨q, hq, rfl⟩ := List.mem_map.1 he
    have hr1 : w1.heap[r]? = some (.mapIter (some b) l.length seen l.length) := by rcases hal with rfl | rfl <;> exact hr
    have hm1 : MapAt kv vv w1 b l := by rcases hal with rfl | rfl <;> exact hm
    have hset := MapKept.heap_set (o' := .mapIter (some b) l.length (seen.push q.2) l.length) hr1
    have hm2 : MapAt kv vv (setBlock w1 r (.mapIter (some b) l.length (seen.push q.2) l.length)) b l := (hset.2 b (Ne.symm hrb)).trans hm1
    refine ⟨q.1, _, _, ?_, hrun, ⟨hm2, seen.push q.2, hset.1, rfl⟩, ?_, ?_, ?_⟩
    · have hp := perm_out _ q hq (hnz.sublist (List.filter_sublist.map _))
      rw [List.filter_filter] at hp
      have e2 : (fun a : (κ × ν) × Nat => !(a.2 == q.2) && !seen.contains a.2) = fun a => !(seen.push q.2).contains a.2 := by
        funext a
        rw [contains_push]
        cases seen.contains a.2 <;> cases (a.2 == q.2) <;> rfl
      rw [e2] at hp
      exact hp.map (·.1)
    · have hf : Fr (Only r) w w1 := by rcases hal with rfl | rfl; exact Fr.refl _ _; exact (Fr.refl _ _).drew
      refine hf.trans' ⟨rfl, rfl, rfl, by simp [setBlock], fun i hi hne => hset.2 i hne⟩
    · rcases hal with rfl | rfl <;> simp [setBlock]
    · have := run_entry_at (P := P) (setBlock w1 r (.mapIter (some b) l.length (seen.push q.2) l.length)) r b l.length seen (ents kv vv 0 l).toArray l.length (mkE kv vv q) hset.1 hm2 (by
        simp only [ents]
        exact List.mem_map.2 ⟨q, (List.mem_filter.1 hq).1, rfl⟩) hnd
      exact this
theorem Ranging.fr {w' : World} {S : Nat → Prop} {r : Nat} {rest : List (κ × ν)} (h : Ranging kv vv w r b l rest) (hf : Fr S w w') (hr : ¬ S r) (hb : ¬ S b) : Ranging kv vv w' r b l rest := by
  obtain ⟨hm, seen, hs, e⟩ := h
  exact ⟨hm.fr hf hb, seen, (hf.block r (lt_of_heap hs) hr).trans hs, e⟩
end
end Go.Proofs.YtodkhoclbhdihaaDoor
