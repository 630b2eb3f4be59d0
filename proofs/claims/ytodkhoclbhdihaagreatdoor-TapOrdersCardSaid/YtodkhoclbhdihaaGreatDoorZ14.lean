/-
  Contracts of record and edit.
-/
import Derived.Test.YtodkhoclbhdihaaGreatDoorZ13
import Derived.Test.YtodkhoclbhdihaaGreatDoorZ12
import Derived.Test.YtodkhoclbhdihaaGreatDoorZ3
import Derived.Test.YtodkhoclbhdihaaGreatDoorZ5
import Derived.Shelf.SlSortCmp.WholeK
import Derived.Shelf.SlSortCmp.NoneTotal
import Derived.Test.YtodkhoclbhdihaaGreatDoorProg
namespace Go.Proofs.YtodkhoclbhdihaaGreatDoor
open Go.RowKit

def recM (rev : Int) (o : GOp) : GMsg := ⟨5, 2, 1, 0, 0, rev, 0, rev, 0, o⟩
def edM (num : Int) (x : GEdit) : GMsg := ⟨2, 2, 1, 0, 0, num, 0, 0, x.tag, x.op⟩
/-- What record and edit answer. -/
def ToldPost (w : World) (a r v e : Nat) (T : GTap) (fr to_ : Int) (m : GMsg) (ev : Ending) (w' : World) : Prop :=
  match encF m with
  | .ok xs => ev = .returned (.int .i64 (seeF T fr to_ xs).1.1) ∧ TapAt w' a r v e (seeF T fr to_ xs).2 ∧ Fr (Its a r v e) w w'
  | .error _ => ev = .returned (.int .i64 (-1)) ∧ TapAt w' a r v e T ∧ Fr (Its a r v e) w w'
theorem enc_short {m : GMsg} {xs : List UInt8} (h : encF m = .ok xs) : xs.length ≤ 1000000 := by
  obtain ⟨_, _, _, rfl⟩ := enc_ok_inv h
  have h2 := lay_len (flat m) (shape m.kind.toNat) (fun f hf => (shape_in _ f hf).2)
  have h3 := lenF_le20 m.kind.toNat
  unfold sealed sum4
  rw [List.length_append]
  simp only [List.length_cons, List.length_nil]
  omega

set_option maxHeartbeats 8000000 in
theorem record_any (B a r v e : Nat) (T : GTap) (rev : Int) (o : GOp) (w : World) (hG : Glb B w) (hB : ∀ k, Its a r v e k → B ≤ k) (hT : TapAt w a r v e T) :
    Calls Tryz.prog 13 #[.pointer (some ⟨a, 0, none⟩), .int .i64 rev, opV o] w fun ev w' => ToldPost w a r v e T 0 1 (recM rev o) ev w' := by
  have hf0 : Fr None' w (w.alloc (.cells #[.int .i64 o.kind, .int .i64 o.pos, .int .u8 (o.ch.toNat : Int), .int .i64 o.client, .int .i64 o.seq] 26)) := (Fr.refl _ _).alloc _
  have hs := sent_any B 0 1 (recM rev o) _ (hG.fr hf0 fun _ h => h.elim)
  have HG := Lib.hid hG
  have HT := Lib.hid hT
  have H0 := Lib.hid hf0
  unfold SentPost at hs
  unfold ToldPost
  have Hshort := Lib.hid fun xs => enc_short (m := recM rev o) (xs := xs)
  generalize encF (recM rev o) = en at *
  unfold recM msgV msgCells opCells dgV at hs
  simp only [List.cons_append, List.nil_append] at hs
  unfold opV opCells
  have Hs := Lib.hid hs
  clear hs hG hT hf0
  cases en with
  | error x =>
    dsimp only at *
    go_enter Tryz.func13, Tryz.ntmps13
    go_wp2_with fail
    refine Hs.out.mono ?_
    rintro e1 w1 ⟨rfl, hf⟩
    dsimp only
    have HF := Lib.hid (H0.out.trans' hf)
    clear hf Hs
    go_wp2
    go_ret
    exact ⟨rfl, HT.out.frn (HF.out.alloc _), (HF.out.alloc _).none⟩
  | ok xs =>
    dsimp only at *
    go_enter Tryz.func13, Tryz.ntmps13
    go_wp2_with fail
    refine Hs.out.mono ?_
    rintro e1 w1 ⟨g, rfl, hg, hb, hf⟩
    dsimp only
    have HF := Lib.hid (H0.out.trans' hf)
    have hx : Fr None' w1 (w1.alloc (.cells #[.int .i64 0, .int .i64 1, .slice (some ⟨g, 0, none⟩) xs.length xs.length, .bool false] 60)) := (Fr.refl _ _).alloc _
    have hRB : RB w1 (some ⟨g, 0, none⟩) xs.length xs := hb.reads0 (by simp)
    have HFx := Lib.hid (HF.out.trans' hx)
    have hsn := seen_any B a r v e T 0 1 (some ⟨g, 0, none⟩) xs.length xs.length xs false _ (HG.out.fr HFx.out fun _ h => h.elim) hB (HT.out.frn HFx.out) (hRB.frn hx) (Hshort.out xs rfl)
    unfold dgV at hsn
    obtain ⟨cd, hcd⟩ : ∃ cd, cd = (seeF T 0 1 xs).1.1 := ⟨_, rfl⟩
    rw [← hcd] at hsn
    have HCD := Lib.hid hcd
    have Hsn := Lib.hid hsn
    clear hf hg hb hx hRB hsn Hs hcd
    go_wp2_with fail
    refine Hsn.out.mono ?_
    rintro e2 w2 ⟨rfl, hT2, hf2⟩
    dsimp only
    have HT2 := Lib.hid hT2
    have HF2 := Lib.hid ((HFx.out.none).trans' hf2)
    clear hT2 hf2
    go_wp2
    go_ret
    exact ⟨by rw [← HCD.out]; rfl, HT2.out, HF2.out⟩

set_option maxHeartbeats 8000000 in
theorem edit_any (B a r v e : Nat) (T : GTap) (num : Int) (x : GEdit) (w : World) (hG : Glb B w) (hB : ∀ k, Its a r v e k → B ≤ k) (hT : TapAt w a r v e T) :
    Calls Tryz.prog 31 #[.pointer (some ⟨a, 0, none⟩), .int .i64 num, editV x] w fun ev w' => ToldPost w a r v e T 1 0 (edM num x) ev w' := by
  have hf0 : Fr None' w (w.alloc (.cells #[.int .i64 x.tag, .int .i64 x.op.kind, .int .i64 x.op.pos, .int .u8 (x.op.ch.toNat : Int), .int .i64 x.op.client, .int .i64 x.op.seq] 67)) := (Fr.refl _ _).alloc _
  have hs := sent_any B 1 0 (edM num x) _ (hG.fr hf0 fun _ h => h.elim)
  have HG := Lib.hid hG
  have HT := Lib.hid hT
  have H0 := Lib.hid hf0
  unfold SentPost at hs
  unfold ToldPost
  have Hshort := Lib.hid fun xs => enc_short (m := edM num x) (xs := xs)
  generalize encF (edM num x) = en at *
  unfold edM msgV msgCells opCells dgV at hs
  simp only [List.cons_append, List.nil_append] at hs
  unfold editV opCells
  have Hs := Lib.hid hs
  clear hs hG hT hf0
  cases en with
  | error er =>
    dsimp only at *
    go_enter Tryz.func31, Tryz.ntmps31
    go_wp2_with fail
    refine Hs.out.mono ?_
    rintro e1 w1 ⟨rfl, hf⟩
    dsimp only
    have HF := Lib.hid (H0.out.trans' hf)
    clear hf Hs
    go_wp2
    go_ret
    exact ⟨rfl, HT.out.frn (HF.out.alloc _), (HF.out.alloc _).none⟩
  | ok xs =>
    dsimp only at *
    go_enter Tryz.func31, Tryz.ntmps31
    go_wp2_with fail
    refine Hs.out.mono ?_
    rintro e1 w1 ⟨g, rfl, hg, hb, hf⟩
    dsimp only
    have HF := Lib.hid (H0.out.trans' hf)
    have hx : Fr None' w1 (w1.alloc (.cells #[.int .i64 1, .int .i64 0, .slice (some ⟨g, 0, none⟩) xs.length xs.length, .bool false] 60)) := (Fr.refl _ _).alloc _
    have hRB : RB w1 (some ⟨g, 0, none⟩) xs.length xs := hb.reads0 (by simp)
    have HFx := Lib.hid (HF.out.trans' hx)
    have hsn := seen_any B a r v e T 1 0 (some ⟨g, 0, none⟩) xs.length xs.length xs false _ (HG.out.fr HFx.out fun _ h => h.elim) hB (HT.out.frn HFx.out) (hRB.frn hx) (Hshort.out xs rfl)
    unfold dgV at hsn
    obtain ⟨cd, hcd⟩ : ∃ cd, cd = (seeF T 1 0 xs).1.1 := ⟨_, rfl⟩
    rw [← hcd] at hsn
    have HCD := Lib.hid hcd
    have Hsn := Lib.hid hsn
    clear hf hg hb hx hRB hsn Hs hcd
    go_wp2_with fail
    refine Hsn.out.mono ?_
    rintro e2 w2 ⟨rfl, hT2, hf2⟩
    dsimp only
    have HT2 := Lib.hid hT2
    have HF2 := Lib.hid ((HFx.out.none).trans' hf2)
    clear hT2 hf2
    go_wp2
    go_ret
    exact ⟨by rw [← HCD.out]; rfl, HT2.out, HF2.out⟩
end Go.Proofs.YtodkhoclbhdihaaGreatDoor

/-
  Plain laws: records and edits whose fields may be have a datagram; what record and edit answer then.
-/
namespace Go.Proofs.YtodkhoclbhdihaaGreatDoor
open Go.RowKit

structure OpValid (o : GOp) : Prop where
  kind : 0 ≤ o.kind ∧ o.kind ≤ 2
  pos : 0 ≤ o.pos ∧ o.pos ≤ (if o.kind = 0 then 0 else 4095)
  ch : (if o.kind = 1 then 32 else 0) ≤ (o.ch.toNat : Int) ∧ (o.ch.toNat : Int) ≤ (if o.kind = 1 then 126 else 0)
  client : 1 ≤ o.client ∧ o.client ≤ 64
  seq : 1 ≤ o.seq ∧ o.seq ≤ 64

theorem enc_of {m : GMsg} (h1 : 1 ≤ m.kind) (h6 : m.kind ≤ 6) (h : ∀ f, 1 ≤ f → f < 14 → badF (flat m) (shape m.kind.toNat) (mkOf m) f = false) : ∃ xs, encF m = .ok xs := by
  unfold mkOf at h
  have := firstBad_none (v := flat m) (sh := shape m.kind.toNat) (mk := if m.kind = 2 then m.client else 0) fun j a b => h j a b
  unfold encF
  rw [if_neg (by omega), this]
  exact ⟨_, rfl⟩
theorem enc_recG (ep num rev : Int) (o : GOp) (he : 1 ≤ ep ∧ ep ≤ 255) (hn : 1 ≤ num ∧ num ≤ 4096) (hr : 1 ≤ rev ∧ rev ≤ 4096) (ho : OpValid o) : ∃ xs, encF ⟨5, ep, 1, 0, 0, num, 0, rev, 0, o⟩ = .ok xs := by
  obtain ⟨⟨k0, k2⟩, ⟨p0, p1⟩, ⟨c0, c1⟩, ⟨l0, l1⟩, ⟨s0, s1⟩⟩ := ho
  refine enc_of (by simp) (by simp) fun f h1 h2 => ?_
  match f, h1, h2 with
  | 1, _, _ | 2, _, _ | 3, _, _ | 4, _, _ | 5, _, _ | 6, _, _ | 7, _, _ | 8, _, _ | 9, _, _ | 10, _, _ | 11, _, _ | 12, _, _ | 13, _, _ =>
    simp only [badF, namedB, mayB, loF, hiF, flat, flatL, mkOf, shape, show (5 : Int).toNat = 5 from rfl]
    simp
    try omega
theorem enc_edG (ep num : Int) (x : GEdit) (he : 1 ≤ ep ∧ ep ≤ 255) (hn : 1 ≤ num ∧ num ≤ 4096) (ht : 0 ≤ x.tag ∧ x.tag ≤ 4096) (ho : OpValid x.op) (hc : x.op.client = 1) : ∃ xs, encF ⟨2, ep, 1, 0, 0, num, 0, 0, x.tag, x.op⟩ = .ok xs := by
  obtain ⟨⟨k0, k2⟩, ⟨p0, p1⟩, ⟨c0, c1⟩, ⟨l0, l1⟩, ⟨s0, s1⟩⟩ := ho
  refine enc_of (by simp) (by simp) fun f h1 h2 => ?_
  match f, h1, h2 with
  | 1, _, _ | 2, _, _ | 3, _, _ | 4, _, _ | 5, _, _ | 6, _, _ | 7, _, _ | 8, _, _ | 9, _, _ | 10, _, _ | 11, _, _ | 12, _, _ | 13, _, _ =>
    simp only [badF, namedB, mayB, loF, hiF, flat, flatL, mkOf, shape, show (2 : Int).toNat = 2 from rfl]
    simp
    try omega
theorem enc_rec (rev : Int) (o : GOp) (hr : 1 ≤ rev ∧ rev ≤ 4096) (ho : OpValid o) : ∃ xs, encF (recM rev o) = .ok xs := enc_recG 2 rev rev o (by omega) hr hr ho
theorem enc_ed (num : Int) (x : GEdit) (hn : 1 ≤ num ∧ num ≤ 4096) (ht : 0 ≤ x.tag ∧ x.tag ≤ 4096) (ho : OpValid x.op) (hc : x.op.client = 1) : ∃ xs, encF (edM num x) = .ok xs := enc_edG 2 num x (by omega) hn ht ho hc

def tookR (T : GTap) (ep rev : Int) (o : GOp) : GTap := { T with epoch := maxI T.epoch ep, records := put T.records rev o, revs := put T.revs (nameOf o) rev }
def tookE (T : GTap) (ep : Int) (x : GEdit) : GTap := { T with epoch := maxI T.epoch ep, edits := put T.edits (nameOf x.op) x }
theorem see_recG (T : GTap) (hc : 1 ≤ T.clients) (ep num rev : Int) (o : GOp) {xs : List UInt8} (h : encF ⟨5, ep, 1, 0, 0, num, 0, rev, 0, o⟩ = .ok xs) :
    seeF T 0 1 xs = if fitsRec T rev o = true then ((0, 0), tookR T ep rev o) else ((280, rev), T) := by
  have hb : ¬ badAdr T.clients 0 1 := by
    unfold badAdr
    simp
    omega
  rw [see_msg hb (trip h)]
  simp [rightWay, tookR]
theorem see_edG (T : GTap) (hc : 1 ≤ T.clients) (ep num : Int) (x : GEdit) {xs : List UInt8} (h : encF ⟨2, ep, 1, 0, 0, num, 0, 0, x.tag, x.op⟩ = .ok xs) :
    seeF T 1 0 xs = if fitsEd T x = true then ((0, 0), tookE T ep x) else ((280, x.op.seq), T) := by
  have hb : ¬ badAdr T.clients 1 0 := by
    unfold badAdr
    simp
    omega
  rw [see_msg hb (trip h)]
  simp [rightWay, tookE]

/-- What a record or an edit that may be comes to. -/
def Took (w : World) (a r v e : Nat) (code : Int) (T' : GTap) (ev : Ending) (w' : World) : Prop := ev = .returned (.int .i64 code) ∧ TapAt w' a r v e T' ∧ Fr (Its a r v e) w w'
theorem record_fits {B a r v e : Nat} {T : GTap} {rev : Int} {o : GOp} (hr : 1 ≤ rev ∧ rev ≤ 4096) (ho : OpValid o) (hc : 1 ≤ T.clients) (hf : fitsRec T rev o = true) (w : World) (hG : Glb B w) (hB : ∀ k, Its a r v e k → B ≤ k) (hT : TapAt w a r v e T) :
    Calls Tryz.prog 13 #[.pointer (some ⟨a, 0, none⟩), .int .i64 rev, opV o] w fun ev w' => Took w a r v e 0 (tookR T 2 rev o) ev w' := by
  obtain ⟨xs, hx⟩ := enc_rec rev o hr ho
  refine (record_any B a r v e T rev o w hG hB hT).mono fun ev w' h => ?_
  unfold ToldPost at h
  rw [hx] at h
  dsimp only at h
  rw [see_recG T hc 2 rev rev o hx, if_pos hf] at h
  exact h
theorem record_two {B a r v e : Nat} {T : GTap} {rev : Int} {o : GOp} (hr : 1 ≤ rev ∧ rev ≤ 4096) (ho : OpValid o) (hc : 1 ≤ T.clients) (hf : fitsRec T rev o = false) (w : World) (hG : Glb B w) (hB : ∀ k, Its a r v e k → B ≤ k) (hT : TapAt w a r v e T) :
    Calls Tryz.prog 13 #[.pointer (some ⟨a, 0, none⟩), .int .i64 rev, opV o] w fun ev w' => Took w a r v e 280 T ev w' := by
  obtain ⟨xs, hx⟩ := enc_rec rev o hr ho
  refine (record_any B a r v e T rev o w hG hB hT).mono fun ev w' h => ?_
  unfold ToldPost at h
  rw [hx] at h
  dsimp only at h
  rw [see_recG T hc 2 rev rev o hx, hf] at h
  exact h
theorem edit_fits {B a r v e : Nat} {T : GTap} {num : Int} {x : GEdit} (hr : 1 ≤ num ∧ num ≤ 4096) (ht : 0 ≤ x.tag ∧ x.tag ≤ 4096) (ho : OpValid x.op) (hl : x.op.client = 1) (hc : 1 ≤ T.clients) (hf : fitsEd T x = true) (w : World) (hG : Glb B w) (hB : ∀ k, Its a r v e k → B ≤ k) (hT : TapAt w a r v e T) :
    Calls Tryz.prog 31 #[.pointer (some ⟨a, 0, none⟩), .int .i64 num, editV x] w fun ev w' => Took w a r v e 0 (tookE T 2 x) ev w' := by
  obtain ⟨xs, hx⟩ := enc_ed num x hr ht ho hl
  refine (edit_any B a r v e T num x w hG hB hT).mono fun ev w' h => ?_
  unfold ToldPost at h
  rw [hx] at h
  dsimp only at h
  rw [see_edG T hc 2 num x hx, if_pos hf] at h
  exact h
theorem edit_two {B a r v e : Nat} {T : GTap} {num : Int} {x : GEdit} (hr : 1 ≤ num ∧ num ≤ 4096) (ht : 0 ≤ x.tag ∧ x.tag ≤ 4096) (ho : OpValid x.op) (hl : x.op.client = 1) (hc : 1 ≤ T.clients) (hf : fitsEd T x = false) (w : World) (hG : Glb B w) (hB : ∀ k, Its a r v e k → B ≤ k) (hT : TapAt w a r v e T) :
    Calls Tryz.prog 31 #[.pointer (some ⟨a, 0, none⟩), .int .i64 num, editV x] w fun ev w' => Took w a r v e 280 T ev w' := by
  obtain ⟨xs, hx⟩ := enc_ed num x hr ht ho hl
  refine (edit_any B a r v e T num x w hG hB hT).mono fun ev w' h => ?_
  unfold ToldPost at h
  rw [hx] at h
  dsimp only at h
  rw [see_edG T hc 2 num x hx, hf] at h
  exact h
end Go.Proofs.YtodkhoclbhdihaaGreatDoor

/-
  Plain laws of a tap: the numbers that are known depend on what is looked up alone. No memory and no program in it.
-/
namespace Go.Proofs.YtodkhoclbhdihaaGreatDoor

section
variable {κ ν : Type} [DecidableEq κ]
theorem put_keys (l : List (κ × ν)) (k : κ) (v : ν) : (put l k v).map (·.1) = if k ∈ l.map (·.1) then l.map (·.1) else l.map (·.1) ++ [k] := by
  induction l with
  | nil => simp [put]
  | cons p l ih =>
    obtain ⟨a, b⟩ := p
    unfold put
    by_cases h : a = k
    · subst h
      simp
    · rw [if_neg h, List.map_cons, ih]
      have h' : ¬ k = a := fun e => h e.symm
      by_cases hk : k ∈ l.map (·.1)
      · rw [if_pos hk, if_pos (by simp only [List.map_cons]; exact List.mem_cons_of_mem _ hk)]
        rfl
      · rw [if_neg hk, if_neg (by simp only [List.map_cons]; exact fun hc => (List.mem_cons.1 hc).elim h' hk)]
        rfl
theorem nodup_put (l : List (κ × ν)) (k : κ) (v : ν) (h : (l.map (·.1)).Nodup) : ((put l k v).map (·.1)).Nodup := by
  rw [put_keys]
  split
  · exact h
  · rename_i hk
    exact List.nodup_append.2 ⟨h, by simp, fun a ha b hb e => by
      have := List.mem_singleton.1 hb
      subst this
      subst e
      exact hk ha⟩
theorem get_keys (l : List (κ × ν)) (k : κ) : k ∈ l.map (·.1) ↔ (get l k).isSome = true := by
  induction l with
  | nil => simp [get]
  | cons p l ih =>
    obtain ⟨a, b⟩ := p
    unfold get
    by_cases h : a = k
    · subst h; simp
    · rw [if_neg h, ← ih]
      have h' : ¬ k = a := fun e => h e.symm
      simp [h']
end
/-- The known numbers depend on the look-ups alone. -/
theorem known_congr (r1 r2 : List (Int × GOp)) (n1 : (r1.map (·.1)).Nodup) (n2 : (r2.map (·.1)).Nodup) (h : ∀ k, get r1 k = get r2 k) : knownF r1 = knownF r2 := by
  unfold knownF
  refine sortI_perm ((List.perm_ext_iff_of_nodup n1 n2).2 fun k => ?_)
  rw [get_keys, get_keys, h]
end Go.Proofs.YtodkhoclbhdihaaGreatDoor

/-
  Plain laws of a tap: the edits that are known, sorted, depend on what is looked up alone. No memory and no program in it.
-/
namespace Go.Proofs.YtodkhoclbhdihaaGreatDoor

theorem nodup_pairs {κ ν : Type} (l : List (κ × ν)) (hn : (l.map (·.1)).Nodup) : l.Nodup := by
  induction l with
  | nil => simp
  | cons p l ih =>
    obtain ⟨h1, h2⟩ := List.nodup_cons.1 hn
    exact List.nodup_cons.2 ⟨fun h => h1 (List.mem_map.2 ⟨p, h, rfl⟩), ih h2⟩
section
variable {κ ν : Type} [DecidableEq κ]
theorem mem_get (l : List (κ × ν)) (hn : (l.map (·.1)).Nodup) (k : κ) (v : ν) : (k, v) ∈ l ↔ get l k = some v := by
  constructor
  · intro h
    induction l with
    | nil => cases h
    | cons p l ih =>
      obtain ⟨a, b⟩ := p
      obtain ⟨h1, h2⟩ := List.nodup_cons.1 hn
      unfold get
      rcases List.mem_cons.1 h with e | h
      · cases e
        rw [if_pos rfl]
      · have hne : ¬ a = k := fun e => h1 (by subst e; exact List.mem_map.2 ⟨_, h, rfl⟩)
        rw [if_neg hne]
        exact ih h2 h
  · exact get_mem l k v
/-- Two maps that look up the same hold the same entries. -/
theorem pairs_perm (l1 l2 : List (κ × ν)) (n1 : (l1.map (·.1)).Nodup) (n2 : (l2.map (·.1)).Nodup) (h : ∀ k, get l1 k = get l2 k) : l1.Perm l2 :=
  (List.perm_ext_iff_of_nodup (nodup_pairs l1 n1) (nodup_pairs l2 n2)).2 fun p => by
    obtain ⟨k, v⟩ := p
    rw [mem_get l1 n1, mem_get l2 n2, h]
end
theorem seq_unique : ∀ (l l' : List GEdit), l.Perm l' → l.Pairwise (fun a b => a.op.seq ≤ b.op.seq) → l'.Pairwise (fun a b => a.op.seq ≤ b.op.seq) → (∀ a ∈ l, ∀ b ∈ l, a.op.seq = b.op.seq → a = b) → l = l'
  | [], l', h, _, _, _ => h.nil_eq.symm ▸ rfl
  | a :: l, [], h, _, _, _ => by have := h.length_eq; simp at this
  | a :: l, b :: l', h, h1, h2, hd => by
    obtain ⟨h1a, h1b⟩ := List.pairwise_cons.1 h1
    obtain ⟨h2a, h2b⟩ := List.pairwise_cons.1 h2
    have ha : a ∈ b :: l' := h.mem_iff.1 (List.mem_cons_self ..)
    have hb : b ∈ a :: l := h.mem_iff.2 (List.mem_cons_self ..)
    have hab : a = b := by
      rcases List.mem_cons.1 ha with e | ha'
      · exact e
      · rcases List.mem_cons.1 hb with e | hb'
        · exact e.symm
        · have := h2a a ha'
          have := h1a b hb'
          exact hd a (List.mem_cons_self ..) b hb (by omega)
    subst hab
    rw [seq_unique l l' h.cons_inv h1b h2b fun x hx y hy => hd x (List.mem_cons_of_mem _ hx) y (List.mem_cons_of_mem _ hy)]
end Go.Proofs.YtodkhoclbhdihaaGreatDoor

/-
  Plain laws of a tap: no key stands twice, and an edit stands under its own name, whatever is seen. No memory and no program in it.
-/
namespace Go.Proofs.YtodkhoclbhdihaaGreatDoor

structure Inv (T : GTap) : Prop where
  nr : (T.records.map (·.1)).Nodup
  nv : (T.revs.map (·.1)).Nodup
  ne : (T.edits.map (·.1)).Nodup
  own : ∀ n e, get T.edits n = some e → nameOf e.op = n
theorem inv_see (T : GTap) (h : Inv T) (fr to_ : Int) (xs : List UInt8) : Inv (seeF T fr to_ xs).2 := by
  unfold seeF
  split
  · exact h
  · cases decF xs with
    | error x => exact h
    | ok m =>
      dsimp only
      split
      · exact h
      · split
        · split
          · exact ⟨nodup_put _ _ _ h.nr, nodup_put _ _ _ h.nv, h.ne, h.own⟩
          · exact h
        · split
          · split
            · refine ⟨h.nr, h.nv, nodup_put _ _ _ h.ne, fun n e he => ?_⟩
              have he' : get (put T.edits (nameOf m.op) ⟨m.tag, m.op⟩) n = some e := he
              rw [get_put] at he'
              by_cases hn : nameOf m.op = n
              · rw [if_pos hn] at he'
                cases he'
                exact hn
              · rw [if_neg hn] at he'
                exact h.own n e he'
            · exact h
          · exact ⟨h.nr, h.nv, h.ne, h.own⟩
theorem inv_run : ∀ (l : List Dg) (T : GTap), Inv T → Inv (runF T l).1
  | [], _, h => h
  | d :: l, T, h => by
    unfold runF
    exact inv_run l _ (inv_see T h d.1 d.2.1 d.2.2)
/-- One client's edits: no two with one Seq. -/
theorem sel_apart {T : GTap} (h : Inv T) (l : List ((Int × Int) × GEdit)) (hl : ∀ p ∈ l, p ∈ T.edits) (c : Int) : ∀ a ∈ (l.filter fun p => decide (p.1.1 = c)).map (·.2), ∀ b ∈ (l.filter fun p => decide (p.1.1 = c)).map (·.2), a.op.seq = b.op.seq → a = b := by
  intro a ha b hb he
  obtain ⟨p, hp, rfl⟩ := List.mem_map.1 ha
  obtain ⟨q, hq, rfl⟩ := List.mem_map.1 hb
  obtain ⟨hp1, hp2⟩ := List.mem_filter.1 hp
  obtain ⟨hq1, hq2⟩ := List.mem_filter.1 hq
  obtain ⟨pk, pv⟩ := p
  obtain ⟨qk, qv⟩ := q
  have gp := (mem_get T.edits h.ne pk pv).1 (hl _ hp1)
  have gq := (mem_get T.edits h.ne qk qv).1 (hl _ hq1)
  have op := h.own _ _ gp
  have oq := h.own _ _ gq
  have c1 : pk.1 = c := of_decide_eq_true hp2
  have c2 : qk.1 = c := of_decide_eq_true hq2
  have hk : pk = qk := by
    have e1 : pk.2 = pv.op.seq := by rw [← op]; rfl
    have e2 : qk.2 = qv.op.seq := by rw [← oq]; rfl
    exact Prod.ext (by rw [c1, c2]) (by rw [e1, e2]; exact he)
  subst hk
  rw [gp] at gq
  exact Option.some.inj gq
end Go.Proofs.YtodkhoclbhdihaaGreatDoor

/-
  The case of TapTwo, TapFlips and TapFresh as plain data, and the plain law behind TapTwo. No memory and no program in it.
-/
namespace Go.Proofs.YtodkhoclbhdihaaGreatDoor

theorem cCh_nat (c : GCase) : (cCh c).toNat = 32 + c.ch.toNat % 95 := by unfold cCh; rw [lo8_nat]; omega
theorem cSeq_in (c : GCase) : 2 ≤ cSeq c ∧ cSeq c ≤ 64 := by unfold cSeq; omega
theorem cRev_in (c : GCase) : 2 ≤ cRev c ∧ cRev c ≤ 4096 := by unfold cRev; omega
theorem cOther_in (c : GCase) : 3 ≤ cOther c ∧ cOther c ≤ 4096 ∧ cOther c ≠ cRev c := by have := cRev_in c; unfold cOther; split <;> omega
theorem cOp_ok (c : GCase) : OpValid (cOp c) := by
  have h1 := cSeq_in c
  have h2 := cCh_nat c
  unfold cOp
  cases c.out
  · refine ⟨?_, ?_, ?_, ?_, ?_⟩ <;> simp <;> omega
  · refine ⟨?_, ?_, ?_, ?_, ?_⟩ <;> simp <;> omega
theorem cMoved_ok (c : GCase) : OpValid (cMoved c).op := by
  have h1 := cSeq_in c
  have h2 := cCh_nat c
  unfold cMoved cOp
  cases c.out
  · refine ⟨?_, ?_, ?_, ?_, ?_⟩ <;> simp <;> omega
  · refine ⟨?_, ?_, ?_, ?_, ?_⟩ <;> simp <;> omega
theorem cRec_ok (c : GCase) : OpValid (cRec c) := by
  have h1 := cSeq_in c
  have h2 := cCh_nat c
  unfold cRec
  cases c.out
  · refine ⟨?_, ?_, ?_, ?_, ?_⟩ <;> simp <;> omega
  · cases c.gone
    · refine ⟨?_, ?_, ?_, ?_, ?_⟩ <;> simp <;> omega
    · refine ⟨?_, ?_, ?_, ?_, ?_⟩ <;> simp <;> omega
theorem cRec_pos (c : GCase) : 0 ≤ (cRec c).pos ∧ (cRec c).pos < 90 := by
  unfold cRec
  cases c.out <;> cases c.gone <;> simp <;> omega
theorem cPlace_ok (c : GCase) (h : (cRec c).kind ≠ 0) : OpValid (cPlace c) := by
  have h0 := cRec_ok c
  have hp := cRec_pos c
  obtain ⟨h1, h2, h3, h4, h5⟩ := h0
  have h6 := cSeq_in c
  unfold cPlace
  refine ⟨h1, ?_, h3, by simp, ?_⟩
  · dsimp only
    rw [if_neg h]
    omega
  · dsimp only
    omega
theorem cBad_ok (c : GCase) : OpValid (cBad c) := by
  have h1 := cSeq_in c
  have hp := cRec_pos c
  unfold cBad
  by_cases h0 : c.way % 3 = 0
  · rw [if_pos h0]
    by_cases h33 : (cRec c).ch = 33
    · rw [if_pos h33]
      refine ⟨by simp, ?_, by simp, by simp, ?_⟩ <;> simp <;> omega
    · rw [if_neg h33]
      refine ⟨by simp, ?_, by simp, by simp, ?_⟩ <;> simp <;> omega
  · rw [if_neg h0]
    by_cases h1 : c.way % 3 = 1
    · rw [if_pos h1]
      cases c.out
      · refine ⟨by simp, ?_, by simp, by simp, ?_⟩ <;> simp <;> omega
      · refine ⟨by simp, ?_, by simp, by simp, ?_⟩ <;> simp <;> omega
    · rw [if_neg h1]
      cases c.out
      · refine ⟨by simp, by simp, by simp, by simp, ?_⟩ <;> simp <;> omega
      · refine ⟨by simp, by simp, by simp, by simp, ?_⟩ <;> simp <;> omega
theorem cName (c : GCase) : nameOf (cOp c) = (1, cSeq c) ∧ nameOf (cRec c) = (1, cSeq c) ∧ nameOf (cBad c) = (1, cSeq c) := by
  refine ⟨rfl, ?_, ?_⟩
  · unfold cRec nameOf
    cases (c.out && c.gone) <;> rfl
  · unfold cBad nameOf
    repeat' split
    all_goals rfl
theorem c_goes (c : GCase) : togetherB (cRec c) (cOp c) = true := by
  unfold togetherB cRec cOp
  cases c.out <;> cases c.gone <;> simp
theorem c_bad (c : GCase) : togetherB (cBad c) (cOp c) = false := by
  have h2 := cCh_nat c
  have e33 : ∀ u : UInt8, (if u = 33 then (34 : UInt8) else 33) ≠ u := by
    intro u
    split
    · rename_i h; subst h; decide
    · rename_i h; exact fun e => h e.symm
  unfold togetherB cBad
  cases ho : c.out
  · have e1 : (cRec c).ch = cCh c := by unfold cRec; simp [ho]
    have e2 : (cOp c).ch = cCh c := by unfold cOp; simp [ho]
    have e3 : (cOp c).kind = 1 := by unfold cOp; simp [ho]
    rw [e1, e2, e3]
    have := e33 (cCh c)
    split
    · simp [this]
    · split <;> simp
  · have e3 : (cOp c).kind = 2 := by unfold cOp; simp [ho]
    rw [e3]
    split
    · simp
    · split <;> simp
theorem c_bad_ne (c : GCase) : cRec c ≠ cBad c := fun e => by
  have h1 := c_goes c
  rw [e, c_bad c] at h1
  cases h1
theorem c_first_ne (c : GCase) : cRec c ≠ firstOp := fun e => by
  have h1 := (cName c).2.1
  have h2 := cSeq_in c
  rw [e] at h1
  have := congrArg Prod.snd h1
  simp [nameOf, firstOp] at this
  omega
theorem c_late_ne (c : GCase) : cEd c ≠ cLate c := fun e => by
  have := congrArg GEdit.tag e
  simp [cEd, cLate] at this
  omega
theorem c_moved_ne (c : GCase) : cEd c ≠ cMoved c := fun e => by
  have := congrArg (fun x : GEdit => x.op.pos) e
  simp [cEd, cMoved, cOp] at this
  omega
theorem c_place_ne (c : GCase) : cRec c ≠ cPlace c := fun e => by
  have := congrArg GOp.pos e
  unfold cPlace at this
  dsimp only at this
  omega

def stE (n : Int) (c : GCase) : GTap := ⟨n, 2, [(1, firstOp)], [((1, 1), 1)], [((1, cSeq c), cEd c)]⟩
def stR (n : Int) (c : GCase) (o : GOp) : GTap := ⟨n, 2, [(1, firstOp), (cRev c, o)], [((1, 1), 1), ((1, cSeq c), cRev c)], []⟩
def stB (n : Int) (c : GCase) : GTap := ⟨n, 2, [(1, firstOp), (cRev c, cRec c)], [((1, 1), 1), ((1, cSeq c), cRev c)], [((1, cSeq c), cEd c)]⟩

section
variable (n : Int) (c : GCase)
theorem ne_facts : ((1 : Int) ≠ cRev c) ∧ ((1 : Int) ≠ cSeq c) ∧ ((1 : Int) ≠ cOther c) ∧ cRev c ≠ cOther c := by
  have h1 := cSeq_in c; have h2 := cRev_in c; have h3 := cOther_in c; omega
theorem two_e1 : fitsEd (T1 n) (cEd c) = true ∧ tookE (T1 n) 2 (cEd c) = stE n c := by
  obtain ⟨h1, h2, h3, h4⟩ := ne_facts c
  have e : nameOf (cEd c).op = (1, cSeq c) := (cName c).1
  unfold fitsEd tookE T1 stE
  rw [e]
  simp [get, put, h2, maxI]
theorem two_e2 : fitsRec (stE n c) (cRev c) (cBad c) = false := by
  unfold fitsRec stE
  rw [(cName c).2.2]
  simp [get, c_bad c, cEd]
theorem two_e3 : fitsRec (stE n c) (cRev c) (cRec c) = true ∧ tookR (stE n c) 2 (cRev c) (cRec c) = stB n c := by
  obtain ⟨h1, h2, h3, h4⟩ := ne_facts c
  unfold fitsRec tookR stE stB
  rw [(cName c).2.1]
  simp [get, put, h1, h2, maxI, c_goes c, cEd]
theorem two_e4 : fitsEd (stB n c) (cEd c) = true ∧ tookE (stB n c) 2 (cEd c) = stB n c := by
  obtain ⟨h1, h2, h3, h4⟩ := ne_facts c
  have e : nameOf (cEd c).op = (1, cSeq c) := (cName c).1
  have e2 : (cEd c).op = cOp c := rfl
  unfold fitsEd tookE stB
  rw [e]
  simp [get, put, h1, h2, maxI, e2, c_goes c]
theorem two_r1 (o : GOp) (hn : nameOf o = (1, cSeq c)) : fitsRec (T1 n) (cRev c) o = true ∧ tookR (T1 n) 2 (cRev c) o = stR n c o := by
  obtain ⟨h1, h2, h3, h4⟩ := ne_facts c
  unfold fitsRec tookR T1 stR
  rw [hn]
  simp [get, put, h1, h2, maxI]
theorem two_r2 : fitsEd (stR n c (cRec c)) (cEd c) = true ∧ tookE (stR n c (cRec c)) 2 (cEd c) = stB n c := by
  obtain ⟨h1, h2, h3, h4⟩ := ne_facts c
  have e : nameOf (cEd c).op = (1, cSeq c) := (cName c).1
  have e2 : (cEd c).op = cOp c := rfl
  unfold fitsEd tookE stB stR
  rw [e]
  simp [get, put, h1, h2, maxI, e2, c_goes c]
theorem two_r3 : fitsRec (stB n c) (cRev c) (cRec c) = true ∧ tookR (stB n c) 2 (cRev c) (cRec c) = stB n c := by
  obtain ⟨h1, h2, h3, h4⟩ := ne_facts c
  unfold fitsRec tookR stB
  rw [(cName c).2.1]
  simp [get, put, h1, h2, maxI, c_goes c, cEd]
theorem two_x1 : fitsRec (stB n c) (cOther c) (cRec c) = false := by
  obtain ⟨h1, h2, h3, h4⟩ := ne_facts c
  unfold fitsRec stB
  rw [(cName c).2.1]
  simp [get, h2, h3, h4]
theorem two_x2 : fitsRec (stB n c) 1 (cRec c) = false := by
  have h := c_first_ne c
  unfold fitsRec stB
  rw [(cName c).2.1]
  have hne : ¬ firstOp = cRec c := fun e => h e.symm
  simp [get, hne]
theorem two_x3 : fitsRec (stB n c) (cRev c) firstOp = false := by
  obtain ⟨h1, h2, h3, h4⟩ := ne_facts c
  have h := c_first_ne c
  unfold fitsRec stB
  simp [get, h1, h]
theorem two_x4 : fitsRec (stB n c) (cRev c) (cBad c) = false := by
  obtain ⟨h1, h2, h3, h4⟩ := ne_facts c
  have h := c_bad_ne c
  unfold fitsRec stB
  simp [get, h1, h]
theorem two_x5 : fitsEd (stB n c) (cLate c) = false := by
  have e : nameOf (cLate c).op = (1, cSeq c) := rfl
  have h := c_late_ne c
  unfold fitsEd stB
  rw [e]
  simp [get, h]
theorem two_x6 : fitsEd (stB n c) (cMoved c) = false := by
  have e : nameOf (cMoved c).op = (1, cSeq c) := rfl
  have h := c_moved_ne c
  unfold fitsEd stB
  rw [e]
  simp [get, h]
theorem two_x7 : fitsRec (stB n c) (cRev c) (cPlace c) = false := by
  obtain ⟨h1, h2, h3, h4⟩ := ne_facts c
  have h := c_place_ne c
  unfold fitsRec stB
  simp [get, h1, h]
theorem two_x8 : fitsEd (stR n c (cBad c)) (cEd c) = false := by
  obtain ⟨h1, h2, h3, h4⟩ := ne_facts c
  have e : nameOf (cEd c).op = (1, cSeq c) := (cName c).1
  have e2 : (cEd c).op = cOp c := rfl
  unfold fitsEd stR
  rw [e]
  simp [get, h1, h2, e2, c_bad c]
theorem two_known : knownF (stB n c).records = [1, cRev c] := by
  have h2 := cRev_in c
  refine sorted_unique _ _ (List.mergeSort_perm _ _) (sortI_pair _) ?_
  simp
  omega
theorem two_made : sel 1 (fun _ => true) (stB n c).edits = [cEd c] := by simp [sel, stB]
theorem two_wait : sel 1 (notYet (stB n c)) (stB n c).edits = [] := by
  obtain ⟨h1, h2, h3, h4⟩ := ne_facts c
  have h5 := cRev_in c
  simp [sel, stB, notYet, get, h2]
  try omega
theorem two_wait1 : sel 1 (notYet (stE n c)) (stE n c).edits = [cEd c] := by
  obtain ⟨h1, h2, h3, h4⟩ := ne_facts c
  simp [sel, stE, notYet, get, h2]
theorem two_none : sel 1 (fun _ => true) (stR n c (cBad c)).edits = [] := by simp [sel, stR]
theorem ed_in : ∀ p ∈ (stB n c).edits, 0 ≤ p.2.op.seq ∧ p.2.op.seq ≤ 1000000 := by
  have h1 := cSeq_in c
  intro p hp
  have : p = ((1, cSeq c), cEd c) := by simpa [stB] using hp
  subst this
  show 0 ≤ cSeq c ∧ cSeq c ≤ 1000000
  omega
theorem ed_in1 : ∀ p ∈ (stE n c).edits, 0 ≤ p.2.op.seq ∧ p.2.op.seq ≤ 1000000 := by
  have h1 := cSeq_in c
  intro p hp
  have : p = ((1, cSeq c), cEd c) := by simpa [stE] using hp
  subst this
  show 0 ≤ cSeq c ∧ cSeq c ≤ 1000000
  omega
end
end Go.Proofs.YtodkhoclbhdihaaGreatDoor

/-
  Contracts of a case's made and spoiltRecord, in terms of the plain case.
-/
namespace Go.Proofs.YtodkhoclbhdihaaGreatDoor
open Go.RowKit

theorem made_case (c : GCase) (w : World) : Calls Tryz.prog 29 #[caseV c] w fun e w' => e = .returned (.tuple #[e6 (cEd c), o5 (cRec c), .int .i64 (cRev c)]) ∧ Fr None' w w' := by
  refine (caseMade_any c.out c.gone c.tag c.pos c.ch c.seq c.rev c.way w).mono fun e w' h => ⟨h.1.trans ?_, h.2⟩
  have hch := cCh_nat c
  unfold e6 o5 cEd cOp cRec cRev
  cases c.out <;> cases c.gone <;> simp [hch, cSeq]
theorem spoilt_case (c : GCase) (w : World) : Calls Tryz.prog 30 #[caseV c, o5 (cRec c)] w fun e w' => e = .returned (o5 (cBad c)) ∧ Fr None' w w' := by
  refine (spoilt_any c.out c.gone c.tag c.pos c.ch c.seq c.rev c.way (cRec c).kind (cRec c).pos (cRec c).ch (cRec c).client (cRec c).seq w).mono fun e w' h => ⟨h.1.trans ?_, h.2⟩
  have h1 : (cRec c).client = 1 := congrArg Prod.fst (cName c).2.1
  have h2 : (cRec c).seq = cSeq c := congrArg Prod.snd (cName c).2.1
  rw [h1, h2]
  unfold o5 cBad
  by_cases h0 : c.way % 3 = 0
  · rw [if_pos h0, if_pos h0]
    by_cases h33 : (cRec c).ch = 33
    · rw [if_pos h33, if_pos h33]; rfl
    · rw [if_neg h33, if_neg h33]; rfl
  · rw [if_neg h0, if_neg h0]
    by_cases h1 : c.way % 3 = 1
    · rw [if_pos h1, if_pos h1]
      cases c.out <;> rfl
    · rw [if_neg h1, if_neg h1]
      cases c.out <;> rfl
end Go.Proofs.YtodkhoclbhdihaaGreatDoor

/-
  The numbers at which the library's SortFunc at edits lies in this program.
-/
namespace Go.Proofs.YtodkhoclbhdihaaGreatDoor
open Go.RowKit Go.Sort Go.Shelf

def srtfRen : Go.Shelf.Ren := ⟨fun | 6 => 90 | 15 => 77 | 14 => 132 | 28 => 119 | 29 => 120 | 20 => 156 | 21 => 157 | 22 => 158 | 23 => 159 | 24 => 160 | 25 => 161 | 26 => 162 | 27 => 163 | 46 => 167 | 47 => 144 | 48 => 145 | 49 => 168 | 50 => 169 | 57 => 170 | n => n, fun | 22 => 72 | 24 => 67 | 25 => 175 | 3 => 3 | 39 => 154 | 0 => 0 | 53 => 210 | 55 => 212 | 4 => 4 | 46 => 203 | 45 => 202 | 50 => 180 | 5 => 5 | 9 => 9 | 66 => 246 | 70 => 250 | 76 => 266 | 77 => 163 | n => n, fun | n => n⟩
theorem srtfLays : Go.Proofs.SlLaysF0.n6 Tryz.prog srtfRen := {
  mixed := by kernel_rfl
  f6 := ⟨Tryz.f90.name, by decide, Tryz.func90.trans (congrArg some (by kernel_rfl))⟩
  f14 := ⟨Tryz.f132.name, by decide, Tryz.func132.trans (congrArg some (by kernel_rfl))⟩
  f15 := Tryz.func77.trans (congrArg some (by kernel_rfl))
  f20 := ⟨Tryz.f156.name, by decide, Tryz.func156.trans (congrArg some (by kernel_rfl))⟩
  f21 := ⟨Tryz.f157.name, by decide, Tryz.func157.trans (congrArg some (by kernel_rfl))⟩
  f22 := ⟨Tryz.f158.name, by decide, Tryz.func158.trans (congrArg some (by kernel_rfl))⟩
  f23 := ⟨Tryz.f159.name, by decide, Tryz.func159.trans (congrArg some (by kernel_rfl))⟩
  f24 := ⟨Tryz.f160.name, by decide, Tryz.func160.trans (congrArg some (by kernel_rfl))⟩
  f25 := ⟨Tryz.f161.name, by decide, Tryz.func161.trans (congrArg some (by kernel_rfl))⟩
  f26 := ⟨Tryz.f162.name, by decide, Tryz.func162.trans (congrArg some (by kernel_rfl))⟩
  f27 := ⟨Tryz.f163.name, by decide, Tryz.func163.trans (congrArg some (by kernel_rfl))⟩
  f28 := Tryz.func119.trans (congrArg some (by kernel_rfl))
  f29 := Tryz.func120.trans (congrArg some (by kernel_rfl))
  f46 := ⟨Tryz.f167.name, by decide, Tryz.func167.trans (congrArg some (by kernel_rfl))⟩
  f47 := Tryz.func144.trans (congrArg some (by kernel_rfl))
  f48 := Tryz.func145.trans (congrArg some (by kernel_rfl))
  f49 := ⟨Tryz.f168.name, by decide, Tryz.func168.trans (congrArg some (by kernel_rfl))⟩
  f50 := ⟨Tryz.f169.name, by decide, Tryz.func169.trans (congrArg some (by kernel_rfl))⟩
  f57 := ⟨Tryz.f170.name, by decide, Tryz.func170.trans (congrArg some (by kernel_rfl))⟩
  t0 := Tryz.underlying0
  a0 := Tryz.isAgg0
  z0 := Tryz.sizeOf0
  v0 := Tryz.zeroValue0
  t3 := Tryz.underlying3
  a3 := Tryz.isAgg3
  z3 := Tryz.sizeOf3
  v3 := Tryz.zeroValue3
  t4 := Tryz.underlying4
  a4 := Tryz.isAgg4
  z4 := Tryz.sizeOf4
  v4 := Tryz.zeroValue4
  t5 := Tryz.underlying5
  a5 := Tryz.isAgg5
  z5 := Tryz.sizeOf5
  v5 := Tryz.zeroValue5
  t9 := Tryz.underlying9
  a9 := Tryz.isAgg9
  z9 := Tryz.sizeOf9
  v9 := Tryz.zeroValue9
  t22 := Tryz.underlying72
  a22 := Tryz.isAgg72
  z22 := Tryz.sizeOf72
  v22 := Tryz.zeroValue72
  t25 := Tryz.underlying175
  a25 := Tryz.isAgg175
  z25 := Tryz.sizeOf175
  v25 := Tryz.zeroValue175
  t39 := Tryz.underlying154
  a39 := Tryz.isAgg154
  z39 := Tryz.sizeOf154
  v39 := Tryz.zeroValue154
  t45 := Tryz.underlying202
  a45 := Tryz.isAgg202
  z45 := Tryz.sizeOf202
  v45 := Tryz.zeroValue202
  t46 := Tryz.underlying203
  a46 := Tryz.isAgg203
  z46 := Tryz.sizeOf203
  v46 := Tryz.zeroValue203
  t50 := Tryz.underlying180
  a50 := Tryz.isAgg180
  z50 := Tryz.sizeOf180
  v50 := Tryz.zeroValue180
  t53 := Tryz.underlying210
  a53 := Tryz.isAgg210
  z53 := Tryz.sizeOf210
  v53 := Tryz.zeroValue210
  t55 := Tryz.underlying212
  a55 := Tryz.isAgg212
  z55 := Tryz.sizeOf212
  v55 := Tryz.zeroValue212
  t66 := Tryz.underlying246
  a66 := Tryz.isAgg246
  z66 := Tryz.sizeOf246
  v66 := Tryz.zeroValue246
  t70 := Tryz.underlying250
  a70 := Tryz.isAgg250
  z70 := Tryz.sizeOf250
  v70 := Tryz.zeroValue250
  t76 := Tryz.underlying266
  a76 := Tryz.isAgg266
  z76 := Tryz.sizeOf266
  v76 := Tryz.zeroValue266
  t77 := Tryz.underlying163
  a77 := Tryz.isAgg163
  z77 := Tryz.sizeOf163
  v77 := Tryz.zeroValue163 }
end Go.Proofs.YtodkhoclbhdihaaGreatDoor

/-
  What the library's sorts leave of a list of one's own: it is one's own again, sorted. The sort of edits by their Seqs.
-/
namespace Go.Proofs.YtodkhoclbhdihaaGreatDoor
open Go.RowKit Go.Sort Go.Shelf

section
variable {α : Type} [Inhabited α]
theorem putCells_take (enc : α → Value) (d : Array α) (c : Array Value) (h : d.size ≤ c.size) : (putCells enc 0 d c).toList.take d.size = d.toList.map enc := by
  apply List.ext_getElem?
  intro i
  rw [List.getElem?_take]
  by_cases hi : i < d.size
  · rw [if_pos hi]
    simp only [putCells, Array.getElem?_toList, Array.getElem?_mapIdx]
    rw [Array.getElem?_eq_getElem (show i < c.size by omega)]
    simp [hi]
  · rw [if_neg hi]
    rw [List.getElem?_eq_none (by simp; omega)]
/-- A row of one's own, behind a sort of it. -/
theorem own_put {w : World} {base : Nat} {e : TypeId} {size n : Nat} {A : Option Addr} {cap : Nat} {xs : List Value} (enc : α → Value) (d : Array α) (m : Nat) (os : Array Obj) {g : Nat} (hA : A = some ⟨g, 0, none⟩)
    (h : w.ownsRow base e size (.slice A n cap) n xs) (hd : d.size = n * size) : (grow (putRow enc (Sort.ahead w m) g 0 d) os).ownsRow base e size (.slice A n cap) n (d.toList.map enc) := by
  subst hA
  rcases h.2 with ⟨hv, _⟩ | ⟨g', cap', cur, hv, hb, hg, hc, hm, hcs, _⟩
  · cases hv
  · cases hv
    refine ⟨by simp [hd], .inr ⟨g, cap, putCells enc 0 d cur, rfl, hb, ?_, hc, hm, by simp [putCells, hcs], ?_⟩⟩
    · have hg' := lt_of_heap hg
      rw [heap_grow_old _ _ (by simpa [putRow, mapBlock, Sort.ahead] using hg')]
      simp [putRow, mapBlock, Sort.ahead, Array.getElem?_modify, hg, onCells]
    · have hle : n * size ≤ cap * size := Nat.mul_le_mul_right _ hc
      rw [← hd]
      exact putCells_take enc d cur (by omega)
theorem fr_put {W w : World} (enc : α → Value) (d : Array α) (m : Nat) (os : Array Obj) {g : Nat} (hf : Fr None' W w) (hg : W.heap.size ≤ g) : Fr None' W (grow (putRow enc (Sort.ahead w m) g 0 d) os) := by
  refine ⟨hf.os, hf.tape, hf.output, ?_, fun k hk _ => ?_⟩
  · have : w.heap.size ≤ (grow (putRow enc (Sort.ahead w m) g 0 d) os).heap.size := by simp [grow, putRow, mapBlock, Sort.ahead]
    exact Nat.le_trans hf.size this
  · have hkw : k < w.heap.size := Nat.lt_of_lt_of_le hk hf.size
    have e1 := heap_grow_old (putRow enc (Sort.ahead w m) g 0 d) os (k := k) (by simp [putRow, mapBlock, Sort.ahead]; exact hkw)
    refine e1.trans (Eq.trans ?_ (hf.block k hk fun h => h))
    have hne : ¬ g = k := by omega
    simp [putRow, mapBlock, Sort.ahead, Array.getElem?_modify, hne]
end

abbrev SE := { e : GEdit // 0 ≤ e.op.seq ∧ e.op.seq ≤ 1000000 }
instance : Inhabited SE := ⟨⟨zeroEdit, by unfold zeroEdit zeroOp; simp⟩⟩
def seEnc (x : SE) : List Value := edCells x.1
def seCmp (x y : SE) : Int := x.1.op.seq - y.1.op.seq
theorem seEnc_len (x : SE) : (seEnc x).length = 6 := rfl
theorem seEnc_one (x : SE) : ∀ v ∈ seEnc x, v.oneCell' = true := fun v hv => by
  simp only [seEnc, edCells, opCells, List.mem_cons, List.not_mem_nil, or_false] at hv
  rcases hv with rfl | rfl | rfl | rfl | rfl | rfl <;> rfl
theorem se_lt (x y : SE) : ltOf seCmp x y = decide (x.1.op.seq < y.1.op.seq) := by
  unfold ltOf seCmp
  by_cases h : x.1.op.seq < y.1.op.seq
  · rw [decide_eq_true h, decide_eq_true (by omega)]
  · rw [decide_eq_false h, decide_eq_false (by omega)]
theorem se_swo : SWO (ltOf seCmp) where
  irrefl x := by rw [se_lt]; simp
  trans x y z h1 h2 := by rw [se_lt] at *; simp at *; omega
  ntrans x y z h1 h2 := by rw [se_lt] at *; simp at *; omega
theorem cmpC_grow (x y : SE) (w : World) : Calls Tryz.prog 91 #[.agg (seEnc x).toArray, .agg (seEnc y).toArray] w fun e w' => e = .returned (.int .i64 (seCmp x y)) ∧ ∃ q os', w' = grow (w.drewN q) os' := by
  obtain ⟨x, hx⟩ := x
  obtain ⟨y, hy⟩ := y
  have e1 : IntKind.i64.wrap (x.op.seq - y.op.seq) = x.op.seq - y.op.seq := IntWalk.i64_in _ (by omega)
  unfold seEnc edCells opCells seCmp
  dsimp only
  clear hx hy
  go_enter Tryz.func91, Tryz.ntmps91
  go_wp2
  go_ret
  exact ⟨rfl, 0, _, by rw [alloc_eq_grow, alloc_eq_grow, grow_grow]; rfl⟩
theorem cmpC_lays (blk off size : Nat) (w : World) : CmpLays Tryz.prog 91 #[] seEnc 6 seCmp blk off size w := fun _ _ _ _ x y => cmpC_grow x y _

theorem flat_list (d : Array SE) : (flatK seEnc 6 d).toList = eds (d.toList.map (·.1)) := by
  apply List.ext_getElem?
  intro i
  by_cases hi : i < d.size * 6
  · have h1 : (flatK seEnc 6 d).toList[i]? = some ((seEnc d[i / 6]!)[i % 6]!) := by
      simp [flatK, hi]
    rw [h1]
    have hk : i / 6 < d.size := by omega
    have hd : (d.toList.map (·.1)).drop (i / 6) = (d.toList.map (·.1))[i / 6]'(by simpa using hk) :: (d.toList.map (·.1)).drop (i / 6 + 1) := List.drop_eq_getElem_cons (by simpa using hk)
    have hm : (eds (d.toList.map (·.1)))[i]? = ((eds (d.toList.map (·.1))).drop (i / 6 * 6))[i % 6]? := by
      rw [List.getElem?_drop]
      congr 1
      omega
    rw [hm, eds_drop, hd]
    show _ = ((edCells _) ++ eds _)[i % 6]?
    have hm6 : i % 6 < 6 := Nat.mod_lt _ (by omega)
    rw [List.getElem?_append_left (by show i % 6 < 6; exact hm6)]
    have e1 : d[i / 6]! = d[i / 6]'hk := getElem!_pos d (i / 6) hk
    rw [e1]
    simp only [List.getElem_map, Array.getElem_toList]
    unfold seEnc
    rw [List.getElem?_eq_getElem (show i % 6 < (edCells d[i / 6].1).length from hm6)]
    rw [getElem!_pos (edCells d[i / 6].1) (i % 6) hm6]
    rfl
  · rw [List.getElem?_eq_none (by simp; omega), List.getElem?_eq_none (by rw [eds_len]; simp; omega)]
theorem ren_f : srtfRen.f 6 = 90 := rfl
theorem ren_t : srtfRen.t 24 = EDT := rfl
theorem ed_agg : ∀ w, (isAgg EDT).run Tryz.prog w = .ok true w := Tryz.isAgg67
theorem ed_siz : ∀ w, (Go.sizeOf EDT).run Tryz.prog w = .ok 6 w := Tryz.sizeOf67

/-- The sort of edits, of a list of one's own. -/
theorem sortf_own (W w : World) (v : Value) (L : List GEdit) (hf : Fr None' W w) (hown : w.ownsRow W.heap.size EDT 6 v L.length (eds L)) (hsq : ∀ e ∈ L, 0 ≤ e.op.seq ∧ e.op.seq ≤ 1000000) (hn : L.length ≤ 100000) :
    ∃ A c, v = .slice A L.length c ∧ Calls Tryz.prog 90 #[.slice A L.length c, .func (.func 91) #[] #[]] w fun e w' =>
      e = .returned (.tuple #[]) ∧ ∃ L' : List GEdit, L'.Perm L ∧ L'.Pairwise (fun a b => a.op.seq ≤ b.op.seq) ∧ w'.ownsRow W.heap.size EDT 6 (.slice A L.length c) L.length (eds L') ∧ Fr None' W w' := by
  obtain ⟨A, c, rfl, hc, hr, hft⟩ := own_reads hown
  refine ⟨A, c, rfl, ?_⟩
  by_cases h0 : L.length = 0
  · have hz : L = [] := List.eq_nil_of_length_eq_zero h0
    subst hz
    have h := AnyF.slices_SortFunc_none srtfLays A c (.func (.func 91) #[] #[]) w
    rw [ren_f] at h
    exact h.mono fun e w' ⟨h1, h2⟩ => ⟨h1, [], List.Perm.refl _, List.Pairwise.nil, by rw [h2]; exact hown, by rw [h2]; exact hf⟩
  · obtain ⟨b, off, hA, hlt, hcell⟩ := hr.2 (by omega)
    rcases hown.2 with ⟨_, hz⟩ | ⟨g, cap, cur, hv, hb, hg, hcc, _, hcs, htake⟩
    · exact absurd hz h0
    cases hv
    obtain ⟨d, hd⟩ : ∃ d : Array SE, d.toList.map (·.1) = L := ⟨(L.attach.map fun x => (⟨x.1, hsq x.1 x.2⟩ : SE)).toArray, by
      rw [List.map_map]
      show L.attach.map (fun x => x.1) = L
      simp⟩
    have hds : d.size = L.length := by rw [← hd]; simp
    have hfl : (flatK seEnc 6 d).toList = eds L := by rw [flat_list, hd]
    have hfs : (flatK seEnc 6 d).size = L.length * 6 := by rw [size_flatK, hds]
    have hH : HoldsK seEnc 6 w g 0 d := fun j hj => by
      refine ⟨?_, Blk.frozen (show Blk w g EDT cur from hg) _⟩
      have hj' : j < (eds L).length := by rw [eds_len, ← hfs]; exact hj
      cases hA
      have h1 := hcell j ((eds L)[j]) (List.getElem?_eq_getElem hj')
      rw [h1]
      have : (flatK seEnc 6 d)[j]! = (eds L)[j] := by
        rw [getElem!_pos _ j hj]
        have := congrArg (·[j]?) hfl
        simp only [Array.getElem?_toList] at this
        rw [Array.getElem?_eq_getElem hj, List.getElem?_eq_getElem hj'] at this
        exact Option.some.inj this
      rw [this]
      rfl
    have eg : ∀ args w, (callFunc 91 args).run Tryz.prog w = .ok (.enter 91 args) w := enters_of Tryz.func91 (by kernel_rfl) rfl
    have h := AnyQ.slices_SortFunc srtfLays 6 ed_agg ed_siz seEnc seEnc_len seEnc_one seCmp se_swo 91 #[] g 0 c d w eg (cmpC_lays g 0 d.size w) hH (lt_of_heap hg) (by omega)
    rw [ren_f, hds] at h
    refine h.mono fun e w' ⟨h1, d', n, os, hp, hs, h2⟩ => ⟨h1, d'.toList.map (·.1), ?_, ?_, ?_, ?_⟩
    · have hpp := hp.2.2
      have hs1 := hp.1
      rw [Array.extract_eq_self_of_le (by omega), Array.extract_eq_self_of_le (by omega)] at hpp
      rw [← hd]
      exact hpp.map _
    · have hs1 := hp.1
      rw [List.pairwise_iff_getElem]
      intro i j hi hj hij
      have hi' : i < d'.size := by simpa using hi
      have hj' : j < d'.size := by simpa using hj
      have := hs i j (Nat.zero_le _) hij (by omega)
      rw [se_lt, getElem!_pos d' i hi', getElem!_pos d' j hj'] at this
      simp only [decide_eq_false_iff_not] at this
      simp only [List.getElem_map, Array.getElem_toList]
      omega
    · have hs1 := hp.1
      have := own_put (w := w) id (flatK seEnc 6 d') n os rfl hown (by rw [size_flatK]; omega)
      rw [flat_list, List.map_id] at this
      rw [h2]
      exact this
    · rw [h2]
      exact fr_put id (flatK seEnc 6 d') n os hf hb
theorem sortSpec : SortSpec := fun W w v L hf hown hsq hn => by
  obtain ⟨A, c, rfl, h⟩ := sortf_own W w v L hf hown hsq hn
  refine ⟨A, c, rfl, h.mono fun e w' ⟨h1, L', h2, h3, h4, h5⟩ => ⟨h1, L', h2, h3, ?_⟩⟩
  have hl : L'.length = L.length := h2.length_eq
  obtain ⟨A', c', e', hc, hr, hft⟩ := own_reads h4
  cases e'
  exact ⟨hc, hr, hft, h5⟩
end Go.Proofs.YtodkhoclbhdihaaGreatDoor

/-
  Plain laws of a tap: how much it knows at most, and what Seqs its edits have; taps that look up the same. No memory and no program in it.
-/
namespace Go.Proofs.YtodkhoclbhdihaaGreatDoor

theorem getN_le (xs : List UInt8) (p n : Nat) : getN xs p n ≤ 65535 := by
  unfold getN
  have h1 := (((xs[p]?).getD 0)).toNat_lt
  have h2 := (((xs[p + 1]?).getD 0)).toNat_lt
  split <;> omega
theorem pickF_le {xs : List UInt8} {own : Bool} {v' : V} : ∀ (sh : List Nat) (p : Nat) (v : V), (∀ i, v i ≤ 65535) → pickF xs own sh p v = .ok v' → ∀ i, v' i ≤ 65535
  | [], p, v, hv, h => by
    unfold pickF at h
    cases h
    exact hv
  | f :: sh, p, v, hv, h => by
    unfold pickF at h
    by_cases hm : mayB f (setV v f (getN xs p (sz f))) (if own = true then (setV v f (getN xs p (sz f))) 2 else 0) = true
    · rw [if_pos hm] at h
      refine pickF_le sh _ _ (fun i => ?_) h
      unfold setV
      split
      · exact getN_le _ _ _
      · exact hv i
    · rw [if_neg hm] at h
      cases h
theorem dec_seq {xs : List UInt8} {m : GMsg} (h : decF xs = .ok m) : 0 ≤ m.op.seq ∧ m.op.seq ≤ 65535 := by
  unfold decF at h
  split at h
  · cases h
  split at h
  · cases h
  split at h
  · unfold bodyF at h
    split at h
    · cases h
    · split at h
      · cases h
      · split at h
        · cases h
        · split at h
          · cases h
          · rename_i v hp
            cases h
            have hk : ∀ i, 0 ≤ setV (fun _ => 0) 0 ((UInt8.toNat ‹UInt8› : Nat) : Int) i ∧ setV (fun _ => 0) 0 ((UInt8.toNat ‹UInt8› : Nat) : Int) i ≤ 65535 := fun i => by
              have := (‹UInt8› : UInt8).toNat_lt
              unfold setV
              split
              · omega
              · show (0 : Int) ≤ 0 ∧ (0 : Int) ≤ 65535
                omega
            exact ⟨pickF_nonneg _ _ _ (fun i => (hk i).1) hp 13, pickF_le _ _ _ (fun i => (hk i).2) hp 13⟩
  · cases h
theorem mem_put {κ ν : Type} [DecidableEq κ] (l : List (κ × ν)) (k : κ) (v : ν) (p : κ × ν) (h : p ∈ put l k v) : p ∈ l ∨ p = (k, v) := by
  induction l with
  | nil => exact .inr (by simpa [put] using h)
  | cons q l ih =>
    obtain ⟨a, b⟩ := q
    unfold put at h
    split at h
    · rcases List.mem_cons.1 h with h | h
      · exact .inr h
      · exact .inl (List.mem_cons_of_mem _ h)
    · rcases List.mem_cons.1 h with h | h
      · exact .inl (by rw [h]; exact List.mem_cons_self ..)
      · rcases ih h with h | h
        · exact .inl (List.mem_cons_of_mem _ h)
        · exact .inr h
theorem put_len {κ ν : Type} [DecidableEq κ] (l : List (κ × ν)) (k : κ) (v : ν) : (put l k v).length ≤ l.length + 1 := by
  induction l with
  | nil => simp [put]
  | cons q l ih =>
    obtain ⟨a, b⟩ := q
    unfold put
    split
    · simp
    · simp only [List.length_cons]; omega

/-- At most k records and k edits, none twice, and Seqs that can be. -/
structure InvB (T : GTap) (k : Nat) : Prop where
  inv : Inv T
  recs : T.records.length ≤ k
  eds : T.edits.length ≤ k
  sq : ∀ p ∈ T.edits, 0 ≤ p.2.op.seq ∧ p.2.op.seq ≤ 1000000
theorem InvB.up {T : GTap} {k j : Nat} (h : InvB T k) (hj : k ≤ j) : InvB T j := ⟨h.inv, Nat.le_trans h.recs hj, Nat.le_trans h.eds hj, h.sq⟩
theorem invB_see {T : GTap} {k : Nat} (h : InvB T k) (fr to_ : Int) (xs : List UInt8) : InvB (seeF T fr to_ xs).2 (k + 1) := by
  have hi := inv_see T h.inv fr to_ xs
  unfold seeF at hi ⊢
  split
  · exact h.up (Nat.le_succ _)
  · rename_i hb
    rw [if_neg hb] at hi
    cases hd : decF xs with
    | error x => exact h.up (Nat.le_succ _)
    | ok m =>
      rw [hd] at hi
      dsimp only at hi ⊢
      split
      · exact h.up (Nat.le_succ _)
      · rename_i h1
        rw [if_neg h1] at hi
        split
        · rename_i h5
          rw [if_pos h5] at hi
          split
          · rename_i h6
            rw [if_pos h6] at hi
            exact ⟨hi, Nat.le_trans (put_len _ _ _) (Nat.succ_le_succ h.recs), Nat.le_succ_of_le h.eds, h.sq⟩
          · exact h.up (Nat.le_succ _)
        · rename_i h5
          rw [if_neg h5] at hi
          split
          · rename_i h2
            rw [if_pos h2] at hi
            split
            · rename_i h6
              rw [if_pos h6] at hi
              refine ⟨hi, Nat.le_succ_of_le h.recs, Nat.le_trans (put_len _ _ _) (Nat.succ_le_succ h.eds), fun p hp => ?_⟩
              rcases mem_put _ _ _ _ hp with hp | rfl
              · exact h.sq p hp
              · have := dec_seq hd
                dsimp only
                omega
            · exact h.up (Nat.le_succ _)
          · rename_i h2
            rw [if_neg h2] at hi
            exact ⟨hi, Nat.le_succ_of_le h.recs, Nat.le_succ_of_le h.eds, h.sq⟩
theorem invB_T1 (n : Int) : InvB (T1 n) 1 := by
  refine ⟨⟨by simp [T1], by simp [T1], by simp [T1], fun n e h => by cases h⟩, by simp [T1], by simp [T1], fun p hp => by cases hp⟩

/-- Two taps that look up the same. -/
structure Alike (S T : GTap) : Prop where
  epoch : S.epoch = T.epoch
  recs : ∀ k, get S.records k = get T.records k
  revs : ∀ k, get S.revs k = get T.revs k
  eds : ∀ k, get S.edits k = get T.edits k
theorem Alike.refl (T : GTap) : Alike T T := ⟨rfl, fun _ => rfl, fun _ => rfl, fun _ => rfl⟩
theorem alike_known {S T : GTap} (h : Alike S T) (hS : Inv S) (hT : Inv T) : knownF S.records = knownF T.records := known_congr _ _ hS.nr hT.nr h.recs
theorem alike_stand {S T : GTap} (h : Alike S T) : standF S.records = standF T.records := stand_congr _ _ h.recs
theorem alike_sel {S T : GTap} (h : Alike S T) (hS : Inv S) (hT : Inv T) (c : Int) (tst : Int × Int → Bool) : (sel c tst S.edits).Perm (sel c tst T.edits) :=
  ((pairs_perm _ _ hS.ne hT.ne h.eds).filter _).map _
theorem alike_notYet {S T : GTap} (h : Alike S T) : notYet S = notYet T := by
  funext n
  unfold notYet
  rw [h.revs]
theorem sel_seq {T : GTap} (h : Inv T) (c : Int) (tst : Int × Int → Bool) : ∀ a ∈ sel c tst T.edits, ∀ b ∈ sel c tst T.edits, a.op.seq = b.op.seq → a = b := by
  intro a ha b hb e
  have hs : ∀ x ∈ sel c tst T.edits, x ∈ (T.edits.filter fun p => decide (p.1.1 = c)).map (·.2) := fun x hx => by
    unfold sel at hx
    obtain ⟨p, hp, rfl⟩ := List.mem_map.1 hx
    obtain ⟨h1, h2⟩ := List.mem_filter.1 hp
    simp only [Bool.and_eq_true] at h2
    exact List.mem_map.2 ⟨p, List.mem_filter.2 ⟨h1, h2.1⟩, rfl⟩
  exact sel_apart h T.edits (fun p hp => hp) c a (hs a ha) b (hs b hb) e
/-- What is sorted out of the one tap is what is sorted out of the other. -/
theorem alike_sorted {S T : GTap} (h : Alike S T) (hS : Inv S) (hT : Inv T) (c : Int) (tst : Int × Int → Bool) {L M : List GEdit} (pL : L.Perm (sel c tst S.edits)) (pM : M.Perm (sel c tst T.edits))
    (sL : L.Pairwise fun a b => a.op.seq ≤ b.op.seq) (sM : M.Pairwise fun a b => a.op.seq ≤ b.op.seq) : L = M :=
  seq_unique L M (pL.trans ((alike_sel h hS hT c tst).trans pM.symm)) sL sM fun a ha b hb e => sel_seq hS c tst a (pL.mem_iff.1 ha) b (pL.mem_iff.1 hb) e
theorem sel_len (c : Int) (tst : Int × Int → Bool) (l : List ((Int × Int) × GEdit)) : (sel c tst l).length ≤ l.length := by
  unfold sel
  rw [List.length_map]
  exact List.length_filter_le _ _
end Go.Proofs.YtodkhoclbhdihaaGreatDoor

/-
  What Known, Made and Waiting answer where the answer is known to be a given list.
-/
namespace Go.Proofs.YtodkhoclbhdihaaGreatDoor
open Go.RowKit

theorem perm_one {α : Type} {L : List α} {x : α} (h : L.Perm [x]) : L = [x] := List.perm_singleton.1 h
theorem perm_nil {α : Type} {L : List α} (h : L.Perm []) : L = [] := List.perm_nil.1 h
/-- An answer that is the list L, read. -/
def GotE (w : World) (L : List GEdit) (ev : Ending) (w' : World) : Prop := ∃ A cc, ev = .returned (.slice A L.length cc) ∧ L.length ≤ cc ∧ Reads w' 6 A L.length (eds L) ∧ Fr None' w w'
theorem made_got {L : List GEdit} (a r v e : Nat) (T : GTap) (c : Int) (w : World) (hT : TapAt w a r v e T) (hlen : T.edits.length ≤ 100000) (hsq : ∀ p ∈ T.edits, 0 ≤ p.2.op.seq ∧ p.2.op.seq ≤ 1000000)
    (hL : ∀ M : List GEdit, M.Perm (sel c (fun _ => true) T.edits) → M.Pairwise (fun a b => a.op.seq ≤ b.op.seq) → M = L) :
    Calls Tryz.prog 34 #[.pointer (some ⟨a, 0, none⟩), .int .i64 c] w fun ev w' => GotE w L ev w' := by
  refine (made_any sortSpec a r v e T c w hT hlen hsq).mono fun ev w' ⟨M, hp, A, cc, M', h1, h2, h3, h4, h5, _, h7⟩ => ?_
  have hM : M' = L := hL M' (h2.trans hp) h3
  have hl : M.length = L.length := by rw [← hM]; exact h2.length_eq.symm
  subst hM
  rw [hl] at h1 h4 h5
  exact ⟨A, cc, h1, h4, h5, h7⟩
theorem wait_got {L : List GEdit} (a r v e : Nat) (T : GTap) (c : Int) (w : World) (hT : TapAt w a r v e T) (hlen : T.edits.length ≤ 100000) (hsq : ∀ p ∈ T.edits, 0 ≤ p.2.op.seq ∧ p.2.op.seq ≤ 1000000)
    (hL : ∀ M : List GEdit, M.Perm (sel c (notYet T) T.edits) → M.Pairwise (fun a b => a.op.seq ≤ b.op.seq) → M = L) :
    Calls Tryz.prog 32 #[.pointer (some ⟨a, 0, none⟩), .int .i64 c] w fun ev w' => GotE w L ev w' := by
  refine (waiting_any sortSpec a r v e T c w hT hlen hsq).mono fun ev w' ⟨M, hp, A, cc, M', h1, h2, h3, h4, h5, _, h7⟩ => ?_
  have hM : M' = L := hL M' (h2.trans hp) h3
  have hl : M.length = L.length := by rw [← hM]; exact h2.length_eq.symm
  subst hM
  rw [hl] at h1 h4 h5
  exact ⟨A, cc, h1, h4, h5, h7⟩
theorem edits_same (A B : Option Addr) (n m c d : Nat) (xs : List GEdit) (w : World) (ha : Reads w 6 A n (eds xs)) (hb : Reads w 6 B m (eds xs)) (hn : n ≤ 1000000) (hm : m ≤ 1000000) :
    Calls Tryz.prog 33 #[.slice A n c, .slice B m d] w fun e w' => e = .returned (.bool true) ∧ Fr None' w w' :=
  (edits_any A B n m c d xs xs w ha hb hn hm).mono fun e w' h => ⟨h.1.trans (by simp), h.2⟩
/-- An answer that is the list of numbers L, read. -/
def GotI (w : World) (L : List Int) (ev : Ending) (w' : World) : Prop := ∃ A cc, ev = .returned (.slice A L.length cc) ∧ L.length ≤ cc ∧ RI w' A L.length L ∧ Fr None' w w'
theorem knownF_len (recs : List (Int × GOp)) : (knownF recs).length = recs.length := by
  unfold knownF
  rw [sortI_len, List.length_map]
theorem known_got {L : List Int} (a r v e : Nat) (T : GTap) (w : World) (hT : TapAt w a r v e T) (hlen : T.records.length ≤ 100000) (hL : knownF T.records = L) :
    Calls Tryz.prog 18 #[.pointer (some ⟨a, 0, none⟩)] w fun ev w' => GotI w L ev w' := by
  refine (known_any a r v e T w hT hlen).mono fun ev w' ⟨A, c, h1, h2, h3, _, h5⟩ => ?_
  have hl : T.records.length = L.length := by rw [← hL, knownF_len]
  rw [hl] at h1 h2 h3
  rw [hL] at h3
  exact ⟨A, c, h1, h2, h3, h5⟩
end Go.Proofs.YtodkhoclbhdihaaGreatDoor
