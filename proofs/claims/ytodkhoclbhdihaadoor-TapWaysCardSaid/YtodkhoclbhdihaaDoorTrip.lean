/-
  Reading a message's datagram gives the message again; what the fields of such a message can be. No memory and no program in it.
-/
import Derived.Test.YtodkhoclbhdihaaDoorWireP
namespace Go.Proofs.YtodkhoclbhdihaaDoor

def mkOf (m : GMsg) : Int := if m.kind = 2 then m.client else 0
theorem enc_ok_inv {m : GMsg} {xs : List UInt8} (h : encF m = .ok xs) :
    1 ≤ m.kind ∧ m.kind ≤ 6 ∧ (∀ f, 1 ≤ f → f < 14 → badF (flat m) (shape m.kind.toNat) (mkOf m) f = false) ∧ xs = sealed (layB (flat m) (shape m.kind.toNat)) := by
  unfold encF at h
  split at h
  · cases h
  · rename_i hk
    split at h
    · cases h
    · rename_i hb
      cases h
      refine ⟨by omega, by omega, fun f h1 h2 => ?_, rfl⟩
      unfold firstBad at hb
      rw [List.find?_range'_eq_none] at hb
      have := hb f h1 (by omega)
      unfold mkOf
      simpa using this
theorem bad_named {v : V} {sh : List Nat} {mk : Int} {f : Nat} (h : badF v sh mk f = false) (hf : f ∈ sh) : mayB f v mk = true := by
  unfold badF namedB at h
  have : sh.contains f = true := by simpa using hf
  rw [this] at h
  simpa using h
theorem bad_unnamed {v : V} {sh : List Nat} {mk : Int} {f : Nat} (h : badF v sh mk f = false) (hf : f ∉ sh) : v f = 0 := by
  unfold badF namedB at h
  have : sh.contains f = false := by simpa using hf
  rw [this] at h
  simpa using h
theorem shape_in (k : Nat) : ∀ f ∈ shape k, 1 ≤ f ∧ f < 14 := by
  match k with
  | 0 | 1 | 2 | 3 | 4 | 5 | 6 => decide
  | k + 7 => simp [shape]
theorem shape_up (k : Nat) : (shape k).Pairwise (· < ·) := by
  match k with
  | 0 | 1 | 2 | 3 | 4 | 5 | 6 => decide
  | k + 7 => simp [shape]
theorem shape_two (k : Nat) (h1 : 1 ≤ k) (h6 : k ≤ 6) : 1 ∈ shape k ∧ 2 ∈ shape k := by
  match k, h1, h6 with
  | 1, _, _ | 2, _, _ | 3, _, _ | 4, _, _ | 5, _, _ | 6, _, _ => decide
theorem mayB_iff (f : Nat) (v : V) (mk : Int) : mayB f v mk = true ↔ loF f v mk ≤ v f ∧ v f ≤ hiF f v mk := by
  unfold mayB
  simp
/-- The bounds of a field that may be, whatever it is. -/
theorem may_range {v : V} {mk : Int} {f : Nat} (h : mayB f v mk = true) (hmk : mk = 0 ∨ (1 ≤ mk ∧ mk ≤ 64)) (h1 : 1 ≤ f) (h2 : f < 14) : 0 ≤ v f ∧ v f ≤ (if sz f = 2 then 65535 else 255) := by
  rw [mayB_iff] at h
  match f, h1, h2 with
  | 1, _, _ | 2, _, _ | 3, _, _ | 4, _, _ | 5, _, _ | 6, _, _ | 7, _, _ | 8, _, _ | 9, _, _ | 10, _, _ | 11, _, _ | 12, _, _ | 13, _, _ =>
    simp only [loF, hiF, sz] at h ⊢
    simp
    repeat' split at h
    all_goals omega
theorem lo8_of (x : Int) (h0 : 0 ≤ x) (h1 : x ≤ 255) : (((lo8 x.toNat).toNat : Nat) : Int) = x := by
  rw [lo8_nat]
  omega
theorem getN_field (v : V) (f : Nat) (pre post : List UInt8) (h0 : 0 ≤ v f) (h1 : v f ≤ (if sz f = 2 then 65535 else 255)) : getN (pre ++ fieldB v f ++ post) pre.length (sz f) = v f := by
  unfold getN fieldB
  by_cases h : sz f = 2
  · rw [if_pos h] at h1
    simp only [if_pos h]
    have e1 : (pre ++ [lo8 ((v f).toNat / 256), lo8 (v f).toNat] ++ post)[pre.length]? = some (lo8 ((v f).toNat / 256)) := by simp
    have e2 : (pre ++ [lo8 ((v f).toNat / 256), lo8 (v f).toNat] ++ post)[pre.length + 1]? = some (lo8 (v f).toNat) := by simp
    rw [e1, e2]
    simp only [Option.getD_some, lo8_nat]
    omega
  · rw [if_neg h] at h1
    simp only [if_neg h]
    have e1 : (pre ++ [lo8 (v f).toNat] ++ post)[pre.length]? = some (lo8 (v f).toNat) := by simp
    rw [e1]
    simp only [Option.getD_some, lo8_nat]
    omega
theorem field_len (v : V) (f : Nat) (hf : f < 14) : (fieldB v f).length = sz f := by
  unfold fieldB
  have : sz f = 1 ∨ sz f = 2 := by
    unfold sz
    match f, hf with
    | 0, _ | 1, _ | 2, _ | 3, _ | 4, _ | 5, _ | 6, _ | 7, _ | 8, _ | 9, _ | 10, _ | 11, _ | 12, _ | 13, _ => decide
  rcases this with h | h <;> simp [h]
theorem may_same {f : Nat} {v u : V} {mk mk' : Int} (hf : v f = u f) (h9 : 9 ≤ f → v 9 = u 9) (hm : f = 12 → mk = mk') : mayB f v mk = mayB f u mk' := by
  unfold mayB
  rw [hf]
  by_cases h12 : f = 12
  · subst h12
    rw [hm rfl]
    rfl
  by_cases hge : 9 ≤ f
  · have e9 := h9 hge
    have e1 : loF f v mk = loF f u mk' := by
      unfold loF
      split <;> first | rfl | rw [e9] | omega
    have e2 : hiF f v mk = hiF f u mk' := by
      unfold hiF
      split <;> first | rfl | rw [e9] | omega
    rw [e1, e2]
  · have e1 : loF f v mk = loF f u mk' := by
      unfold loF
      split <;> first | rfl | omega
    have e2 : hiF f v mk = hiF f u mk' := by
      unfold hiF
      split <;> first | rfl | omega
    rw [e1, e2]
theorem pick_lay (u : V) (own : Bool) (sh : List Nat) (p : Nat) (v : V) (pre : List UInt8) (hp : pre.length = p) (hup : sh.Pairwise (· < ·)) (hin : ∀ f ∈ sh, 1 ≤ f ∧ f < 14)
    (hv : ∀ i, i ∉ sh → v i = u i) (hm : ∀ f ∈ sh, mayB f u (if own then u 2 else 0) = true) (h2 : own = true → (1 ≤ u 2 ∧ u 2 ≤ 64)) :
    pickF (pre ++ (sh.map (fieldB u)).flatten) own sh p v = .ok u := by
  induction sh generalizing p v pre with
  | nil =>
    unfold pickF
    congr 1
    funext i
    exact hv i (by simp)
  | cons f sh ih =>
    obtain ⟨hlt, hup'⟩ := List.pairwise_cons.1 hup
    have hf := hin f (by simp)
    have hmf := hm f (by simp)
    have hr := may_range hmf (by cases own; exact .inl rfl; exact .inr (h2 rfl)) hf.1 hf.2
    have hg : getN (pre ++ ((f :: sh).map (fieldB u)).flatten) p (sz f) = u f := by
      have := getN_field u f pre (sh.map (fieldB u)).flatten hr.1 hr.2
      rw [← hp, List.map_cons, List.flatten_cons, ← List.append_assoc]
      exact this
    unfold pickF
    rw [hg]
    have hs : ∀ i, i ∉ sh → setV v f (u f) i = u i := fun i hi => by
      unfold setV
      by_cases e : i = f
      · rw [if_pos e, e]
      · rw [if_neg e]
        exact hv i (by simp [e, hi])
    have hmay : mayB f (setV v f (u f)) (if own = true then (setV v f (u f)) 2 else 0) = true := by
      refine Eq.trans (may_same (by simp [setV]) (fun h9 => hs 9 fun h => by have := hlt 9 h; omega) (fun h12 => ?_)) hmf
      rw [hs 2 fun h => by have := hlt 2 h; omega]
    rw [if_pos hmay]
    have := ih (p + sz f) (setV v f (u f)) (pre ++ fieldB u f) (by rw [List.length_append, field_len u f hf.2, hp]) hup' (fun g hg => hin g (by simp [hg])) hs (fun g hg => hm g (by simp [hg]))
    rw [List.map_cons, List.flatten_cons, ← List.append_assoc]
    exact this
theorem lay_len (u : V) (sh : List Nat) (hin : ∀ f ∈ sh, f < 14) : (layB u sh).length = 1 + lenF sh := by
  unfold layB lenF
  rw [List.length_cons, Nat.add_comm]
  congr 1
  induction sh with
  | nil => rfl
  | cons f sh ih =>
    rw [List.map_cons, List.flatten_cons, List.length_append, field_len u f (hin f (by simp)), ih fun g hg => hin g (by simp [hg]), List.map_cons, List.sum_cons]
theorem lenF_le20 (k : Nat) : lenF (shape k) ≤ 20 := by
  match k with
  | 0 | 1 | 2 | 3 | 4 | 5 | 6 => decide
  | k + 7 => simp [shape, lenF]
theorem flat_op (m : GMsg) : opOf (flat m) = m.op := by
  obtain ⟨k, e, c, h, f, n, a, r, t, ⟨k', p, ch, c', s⟩⟩ := m
  simp [opOf, flat, flatL]
theorem flat_msg (m : GMsg) : msgOf m.kind (flat m) = m := by
  have := flat_op m
  unfold msgOf
  rw [this]
  rfl

/-- Reading what was written. -/
theorem trip {m : GMsg} {xs : List UInt8} (h : encF m = .ok xs) : decF xs = .ok m := by
  obtain ⟨h1, h6, hb, rfl⟩ := enc_ok_inv h
  obtain ⟨k, hk⟩ : ∃ k : Nat, m.kind = k := ⟨m.kind.toNat, by omega⟩
  have hkt : m.kind.toNat = k := by omega
  rw [hkt] at hb ⊢
  have hl := lay_len (flat m) (shape k) fun f hf => (shape_in k f hf).2
  have hll := lenF_le20 k
  have hseal : (sealed (layB (flat m) (shape k))).length = 1 + lenF (shape k) + 4 := by
    unfold sealed sum4
    rw [List.length_append, hl]
    rfl
  have htake : (sealed (layB (flat m) (shape k))).take ((sealed (layB (flat m) (shape k))).length - 4) = layB (flat m) (shape k) := by
    rw [hseal]
    unfold sealed
    rw [List.take_left' (by rw [hl]; omega)]
  have hdrop : (sealed (layB (flat m) (shape k))).drop ((sealed (layB (flat m) (shape k))).length - 4) = sum4 (crc (layB (flat m) (shape k))) := by
    rw [hseal]
    unfold sealed
    rw [List.drop_left' (by rw [hl]; omega)]
  unfold decF
  rw [if_neg (by omega), if_neg (by omega), htake, hdrop, if_pos rfl]
  have h0 : flat m 0 = (k : Int) := hk
  have hc : (lo8 (flat m 0).toNat).toNat = k := by rw [h0, lo8_nat]; omega
  have h2 := shape_two k (by omega) (by omega)
  have hmk : mkOf m = if decide (k = 2) = true then flat m 2 else 0 := by
    unfold mkOf
    by_cases e : k = 2
    · rw [if_pos (by omega), if_pos (by simpa using e)]; rfl
    · rw [if_neg (by omega), if_neg (by simpa using e)]
  have hcl : 1 ≤ flat m 2 ∧ flat m 2 ≤ 64 := by
    have := bad_named (hb 2 (by omega) (by omega)) h2.2
    rw [mayB_iff] at this
    exact this
  have hp := pick_lay (flat m) (decide (k = 2)) (shape k) 1 (setV (fun _ => 0) 0 (k : Int)) [lo8 (flat m 0).toNat] rfl (shape_up k) (shape_in k)
    (fun i hi => by
      unfold setV
      by_cases e : i = 0
      · rw [if_pos e, e]; exact h0.symm
      · rw [if_neg e]
        by_cases e14 : i < 14
        · exact (bad_unnamed (hb i (by omega) e14) hi).symm
        · unfold flat flatL
          rw [List.getD_eq_getElem?_getD, List.getElem?_eq_none (by simp; omega)]
          rfl)
    (fun f hf => by
      have hi := shape_in k f hf
      have := bad_named (hb f hi.1 hi.2) hf
      rwa [hmk] at this)
    (fun _ => hcl)
  unfold bodyF layB
  simp only
  rw [hc, if_neg (by omega)]
  have hlen : (lo8 (flat m 0).toNat :: ((shape k).map (fieldB (flat m))).flatten).length = 1 + lenF (shape k) := hl
  rw [if_neg (by rw [hlen]; simp)]
  have e1 : [lo8 (flat m 0).toNat] ++ ((shape k).map (fieldB (flat m))).flatten = lo8 (flat m 0).toNat :: ((shape k).map (fieldB (flat m))).flatten := rfl
  rw [e1] at hp
  rw [hp]
  simp only
  rw [← hk, flat_msg]
/-- Epoch and client of a message that has a datagram. -/
theorem enc_epoch {m : GMsg} {xs : List UInt8} (h : encF m = .ok xs) : 1 ≤ m.epoch ∧ m.epoch ≤ 255 ∧ 1 ≤ m.client ∧ m.client ≤ 64 := by
  obtain ⟨h1, h6, hb, _⟩ := enc_ok_inv h
  have h2 := shape_two m.kind.toNat (by omega) (by omega)
  have a := bad_named (hb 1 (by omega) (by omega)) h2.1
  have b := bad_named (hb 2 (by omega) (by omega)) h2.2
  rw [mayB_iff] at a b
  have a1 : 1 ≤ m.epoch ∧ m.epoch ≤ 255 := a
  have b1 : 1 ≤ m.client ∧ m.client ≤ 64 := b
  omega
end Go.Proofs.YtodkhoclbhdihaaDoor
