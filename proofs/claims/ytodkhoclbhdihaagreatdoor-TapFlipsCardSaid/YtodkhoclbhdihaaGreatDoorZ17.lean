/-
  Plain law: a datagram of which one byte is changed is no datagram: the sum tells. No memory and no program in it.
-/
import Derived.Test.YtodkhoclbhdihaaGreatDoorZ14
import Derived.Test.YtodkhoclbhdihaaGreatDoorZ12
import Derived.Test.YtodkhoclbhdihaaGreatDoorZ16
import Derived.Deep.DeepCutAuto
namespace Go.Proofs.YtodkhoclbhdihaaGreatDoor

theorem tb_top : ∀ i, i < 16 → ∀ j, j < 16 → tb i / 268435456 = tb j / 268435456 → i = j := by decide
theorem nib_inj {r r' : Nat} (h : r < 4294967296) (h' : r' < 4294967296) (e : nib r = nib r') : r = r' := by
  unfold nib at e
  have e2 := congrArg (· / 2 ^ 28) e
  simp only [Nat.xor_div_two_pow] at e2
  have z : r / 16 / 2 ^ 28 = 0 := by omega
  have z' : r' / 16 / 2 ^ 28 = 0 := by omega
  rw [z, z', Nat.zero_xor, Nat.zero_xor] at e2
  have em := tb_top (r % 16) (Nat.mod_lt _ (by omega)) (r' % 16) (Nat.mod_lt _ (by omega)) e2
  rw [em] at e
  have e3 := congrArg (· ^^^ tb (r' % 16)) e
  simp only [Nat.xor_assoc, Nat.xor_self, Nat.xor_zero] at e3
  omega
theorem u8_lt32 (r : Nat) (c : UInt8) (h : r < 4294967296) : r ^^^ c.toNat < 4294967296 := Nat.xor_lt_two_pow (n := 32) h (by have := c.toNat_lt; omega)
theorem step_inj {r r' : Nat} (c c' : UInt8) (h : r < 4294967296) (h' : r' < 4294967296) (e : crcStep r c = crcStep r' c') : r ^^^ c.toNat = r' ^^^ c'.toNat := by
  unfold crcStep at e
  have h1 := u8_lt32 r c h
  have h2 := u8_lt32 r' c' h'
  exact nib_inj h1 h2 (nib_inj (nib_lt _ h1) (nib_lt _ h2) e)
theorem xor_inj {a b c : Nat} (e : a ^^^ c = b ^^^ c) : a = b := by
  have e3 := congrArg (· ^^^ c) e
  simpa only [Nat.xor_assoc, Nat.xor_self, Nat.xor_zero] using e3
theorem fold_inj (l : List UInt8) : ∀ s s' : Nat, s < 4294967296 → s' < 4294967296 → l.foldl crcStep s = l.foldl crcStep s' → s = s' := by
  induction l with
  | nil => intro s s' _ _ e; exact e
  | cons c l ih =>
    intro s s' h h' e
    have := ih (crcStep s c) (crcStep s' c) (crcStep_lt s c h) (crcStep_lt s' c h') e
    exact xor_inj (step_inj c c h h' this)
theorem fold_lt (l : List UInt8) : ∀ s : Nat, s < 4294967296 → l.foldl crcStep s < 4294967296 := by
  induction l with
  | nil => intro s h; exact h
  | cons c l ih => intro s h; exact ih _ (crcStep_lt s c h)
/-- One byte changed: another sum. -/
theorem crc_flip (pre post : List UInt8) (u u' : UInt8) (h : u ≠ u') : crc (pre ++ u :: post) ≠ crc (pre ++ u' :: post) := by
  intro e
  unfold crc at e
  rw [Nat.xor_comm, Nat.xor_comm 4294967295] at e
  have e1 := xor_inj e
  unfold crcReg at e1
  rw [List.foldl_append, List.foldl_append, List.foldl_cons, List.foldl_cons] at e1
  have hl := fold_lt pre 4294967295 (by omega)
  have e2 := fold_inj post _ _ (crcStep_lt _ _ hl) (crcStep_lt _ _ hl) e1
  have e3 := step_inj u u' hl hl e2
  rw [Nat.xor_comm, Nat.xor_comm (List.foldl crcStep 4294967295 pre)] at e3
  exact h (UInt8.toNat_inj.1 (xor_inj e3))
theorem sum4_inj {s s' : Nat} (h : s < 4294967296) (h' : s' < 4294967296) (e : sum4 s = sum4 s') : s = s' := by
  unfold sum4 at e
  simp only [List.cons.injEq, and_true] at e
  obtain ⟨e0, e1, e2, e3⟩ := e
  have f0 := congrArg UInt8.toNat e0
  have f1 := congrArg UInt8.toNat e1
  have f2 := congrArg UInt8.toNat e2
  have f3 := congrArg UInt8.toNat e3
  rw [lo8_nat, lo8_nat] at f0 f1 f2 f3
  omega
theorem flip_bad (body : List UInt8) (p : Nat) (u u' : UInt8) (hp : (sealed body)[p]? = some u) (hne : u ≠ u') (hl : (sealed body).length ≤ 64) :
    decF ((sealed body).set p u') = .error (64, ((body.length : Nat) : Int)) := by
  have hsl : (sealed body).length = body.length + 4 := by unfold sealed sum4; simp
  unfold decF
  rw [List.length_set, hsl, if_neg (by omega), if_neg (by omega), show body.length + 4 - 4 = body.length by omega]
  rw [if_neg]
  intro e
  have hpl : p < (sealed body).length := (List.getElem?_eq_some_iff.1 hp).1
  by_cases h : p < body.length
  · have hb : body[p]? = some u := by
      rw [← hp]
      unfold sealed
      rw [List.getElem?_append_left h]
    have e1 : (sealed body).set p u' = body.set p u' ++ sum4 (crc body) := by
      unfold sealed
      rw [List.set_append_left _ _ h]
    rw [e1, List.drop_left' (by rw [List.length_set]), List.take_left' (by rw [List.length_set])] at e
    have e2 := sum4_inj (crc_lt _) (crc_lt _) e
    have hs : body = body.take p ++ u :: body.drop (p + 1) := by
      have := List.take_append_drop p body
      rw [List.drop_eq_getElem_cons h] at this
      have hu : body[p] = u := by
        rw [List.getElem?_eq_getElem h] at hb
        exact Option.some.inj hb
      rw [hu] at this
      exact this.symm
    have ht : body.set p u' = body.take p ++ u' :: body.drop (p + 1) := by
      rw [List.set_eq_take_append_cons_drop, if_pos h]
    rw [ht] at e2
    rw [hs] at e2
    have hlen : (body.take p).length = p := by rw [List.length_take]; omega
    rw [List.take_left' hlen] at e2
    have hd : (List.take p body ++ u :: List.drop (p + 1) body).drop (p + 1) = List.drop (p + 1) body := by rw [← hs]
    rw [hd] at e2
    exact crc_flip _ _ _ _ hne e2
  · have hsb : (sealed body).set p u' = body ++ (sum4 (crc body)).set (p - body.length) u' := by
      unfold sealed
      rw [List.set_append_right _ _ (by omega)]
    rw [hsb, List.drop_left' rfl, List.take_left' rfl] at e
    have hb : (sum4 (crc body))[p - body.length]? = some u := by
      rw [← hp]
      unfold sealed
      rw [List.getElem?_append_right (by omega)]
    have : (sum4 (crc body))[p - body.length]? = ((sum4 (crc body)).set (p - body.length) u')[p - body.length]? := by rw [e]
    rw [hb, List.getElem?_set_self (by have : (sum4 (crc body)).length = 4 := rfl; omega)] at this
    exact hne (Option.some.inj this)
end Go.Proofs.YtodkhoclbhdihaaGreatDoor

/-
  TapFlips, walked: every case, every flip gives true.
-/
namespace Go.Proofs.YtodkhoclbhdihaaGreatDoor
open Go.RowKit

/-- The message of TapFlips, and which way it goes. -/
def fM (c : GCase) (up : Bool) : GMsg := if up then ⟨2, 9, 1, 0, 0, 1, 0, 0, (cEd c).tag, (cEd c).op⟩ else ⟨5, 9, 1, 0, 0, 1, 0, cRev c, 0, cRec c⟩
def fFr (up : Bool) : Int := if up then 1 else 0
def fTo (up : Bool) : Int := if up then 0 else 1
def fT (c : GCase) (up : Bool) : GTap := if up then tookE (T1 3) 9 (cEd c) else tookR (T1 3) 9 (cRev c) (cRec c)
theorem fM_enc (c : GCase) (up : Bool) : ∃ xs, encF (fM c up) = .ok xs := by
  unfold fM
  cases up
  · exact enc_recG 9 1 (cRev c) (cRec c) (by omega) (by omega) (by have := cRev_in c; omega) (cRec_ok c)
  · exact enc_edG 9 1 (cEd c) (by omega) (by omega) (by show 0 ≤ c.tag % 4097 ∧ c.tag % 4097 ≤ 4096; omega) (cOp_ok c) rfl
theorem fT_see (c : GCase) (up : Bool) {xs : List UInt8} (h : encF (fM c up) = .ok xs) : seeF (T1 3) (fFr up) (fTo up) xs = ((0, 0), fT c up) := by
  unfold fM at h
  unfold fFr fTo fT
  cases up
  · have := see_recG (T1 3) (show (1 : Int) ≤ 3 by decide) 9 1 (cRev c) (cRec c) h
    rw [if_pos (two_r1 3 c (cRec c) (cName c).2.1).1] at this
    exact this
  · have := see_edG (T1 3) (show (1 : Int) ≤ 3 by decide) 9 1 (cEd c) h
    rw [if_pos (two_e1 3 c).1] at this
    exact this
theorem fT_facts (c : GCase) (up : Bool) : (fT c up).epoch = 9 ∧ (fT c up).records.length + (sel 1 (fun _ => true) (fT c up).edits).length = 2 ∧ (fT c up).records.length ≤ 2 ∧ (fT c up).edits.length ≤ 2 ∧ ∀ p ∈ (fT c up).edits, 0 ≤ p.2.op.seq ∧ p.2.op.seq ≤ 1000000 := by
  have h1 := cSeq_in c
  have h2 := cRev_in c
  have hne : ¬ (1 : Int) = cRev c := by omega
  unfold fT
  cases up
  · simp [tookR, T1, maxI, put, hne, sel]
  · have hn : nameOf (cEd c).op = (1, cSeq c) := (cName c).1
    simp only [if_true]
    refine ⟨by simp [tookE, T1, maxI], ?_, by simp [tookE, T1], by simp [tookE, T1, put], fun p hp => ?_⟩
    · simp [tookE, T1, put, sel, hn]
    · have : p = (nameOf (cEd c).op, cEd c) := by simpa [tookE, T1, put] using hp
      subst this
      show 0 ≤ cSeq c ∧ cSeq c ≤ 1000000
      omega
theorem xor_u8 (u : UInt8) (M : Nat) (h : M < 256) : bits .xor .u8 (u.toNat : Int) (M : Int) = ((u ^^^ UInt8.ofNat M).toNat : Int) := by
  rw [UInt8.toNat_xor, UInt8.toNat_ofNat', Nat.mod_eq_of_lt (by omega)]
  exact u8_xor_nat u.toNat M u.toNat_lt h
/-- The byte that is changed, and what of. -/
theorem flip_ne (u : UInt8) (k : Int) : (u ^^^ UInt8.ofNat (1 + (k % 255).toNat)) ≠ u := by
  intro e
  have h : u.toNat ^^^ (UInt8.ofNat (1 + (k % 255).toNat)).toNat = u.toNat := by
    have := congrArg UInt8.toNat e
    rwa [UInt8.toNat_xor] at this
  have h2 : (UInt8.ofNat (1 + (k % 255).toNat)).toNat = 0 := by
    have := xor_inj (a := (UInt8.ofNat (1 + (k % 255).toNat)).toNat) (b := 0) (c := u.toNat) (by rw [Nat.xor_comm, h, Nat.zero_xor])
    exact this
  rw [UInt8.toNat_ofNat'] at h2
  omega
/-- What is true of the changed datagram. -/
theorem flip_see (c : GCase) (up : Bool) {xs : List UInt8} (h : encF (fM c up) = .ok xs) (p : Nat) (u : UInt8) (k : Int) (hp : xs[p]? = some u) :
    ∃ L : Int, decF (xs.set p (u ^^^ UInt8.ofNat (1 + (k % 255).toNat))) = .error (64, L) ∧ seeF (T1 3) (fFr up) (fTo up) (xs.set p (u ^^^ UInt8.ofNat (1 + (k % 255).toNat))) = ((64, L), T1 3) := by
  obtain ⟨h1, h6, _, hx⟩ := enc_ok_inv h
  have h2 := lay_len (flat (fM c up)) (shape (fM c up).kind.toNat) (fun f hf => (shape_in _ f hf).2)
  have h3 := lenF_le20 (fM c up).kind.toNat
  have hd := flip_bad (layB (flat (fM c up)) (shape (fM c up).kind.toNat)) p u (u ^^^ UInt8.ofNat (1 + (k % 255).toNat)) (by rw [← hx]; exact hp) (fun e => flip_ne u k e.symm) (by unfold sealed sum4; rw [List.length_append]; simp only [List.length_cons, List.length_nil]; omega)
  rw [← hx] at hd
  refine ⟨_, hd, see_err ?_ hd⟩
  unfold badAdr fFr fTo T1
  cases up <;> simp
theorem f_short (c : GCase) (up : Bool) {xs : List UInt8} (h : encF (fM c up) = .ok xs) : 0 < xs.length ∧ xs.length ≤ 64 := by
  obtain ⟨h1, h6, _, hx⟩ := enc_ok_inv h
  have h2 := lay_len (flat (fM c up)) (shape (fM c up).kind.toNat) (fun f hf => (shape_in _ f hf).2)
  have h3 := lenF_le20 (fM c up).kind.toNat
  rw [hx]
  unfold sealed sum4
  rw [List.length_append]
  simp only [List.length_cons, List.length_nil]
  omega

set_option maxRecDepth 100000 in
set_option maxHeartbeats 64000000 in
theorem flips_any (B : Nat) (c : GCase) (at_ mk : Int) (up : Bool) (w : World) (hG : Glb B w) : Calls Tryz.prog 9 #[caseV c, .agg #[.int .i64 at_, .int .i64 mk], .bool up] w fun ev w' => ev = .returned (.bool true) ∧ Fr None' w w' := by
  have Hmd := Lib.hid (made_case c)
  have HG := Lib.hid hG
  unfold e6 o5 at Hmd
  unfold caseV at *
  clear hG
  obtain ⟨xr, hxr⟩ := fM_enc c false
  obtain ⟨xe, hxe⟩ := fM_enc c true
  have SR : Hid (∀ w, Glb B w → Calls Tryz.prog 35 #[.int .i64 0, .int .i64 1, .agg #[.int .i64 5, .int .i64 9, .int .i64 1, .int .i64 0, .int .i64 0, .int .i64 1, .int .i64 0, .int .i64 (cRev c), .int .i64 0, .int .i64 (cRec c).kind, .int .i64 (cRec c).pos, .int .u8 ((cRec c).ch.toNat : Int), .int .i64 (cRec c).client, .int .i64 (cRec c).seq]] w fun e w' => ∃ g, e = .returned (.tuple #[.agg #[.int .i64 0, .int .i64 1, .slice (some ⟨g, 0, none⟩) xr.length xr.length, .bool false], .bool true]) ∧ w.heap.size ≤ g ∧ Blk w' g 5 (xr.map bv).toArray ∧ Fr None' w w') := Lib.hid fun w h => (sent_any B 0 1 (fM c false) w h).mono fun e w' h => by
    unfold SentPost at h
    rw [hxr] at h
    exact h
  have SE : Hid (∀ w, Glb B w → Calls Tryz.prog 35 #[.int .i64 1, .int .i64 0, .agg #[.int .i64 2, .int .i64 9, .int .i64 1, .int .i64 0, .int .i64 0, .int .i64 1, .int .i64 0, .int .i64 0, .int .i64 (cEd c).tag, .int .i64 (cEd c).op.kind, .int .i64 (cEd c).op.pos, .int .u8 ((cEd c).op.ch.toNat : Int), .int .i64 (cEd c).op.client, .int .i64 (cEd c).op.seq]] w fun e w' => ∃ g, e = .returned (.tuple #[.agg #[.int .i64 1, .int .i64 0, .slice (some ⟨g, 0, none⟩) xe.length xe.length, .bool false], .bool true]) ∧ w.heap.size ≤ g ∧ Blk w' g 5 (xe.map bv).toArray ∧ Fr None' w w') := Lib.hid fun w h => (sent_any B 1 0 (fM c true) w h).mono fun e w' h => by
    unfold SentPost at h
    rw [hxe] at h
    exact h
  have HXR := Lib.hid (And.intro hxr hxe)
  clear hxr hxe
  have Hi := Lib.hid into_gen
  go_enter Tryz.func9, Tryz.ntmps9
  go_wp2_with fail
  have hx : Fr None' w ((w.alloc (.cells #[.bool c.out, .bool c.gone, .int .i64 c.tag, .int .i64 c.pos, .int .u8 (c.ch.toNat : Int), .int .i64 c.seq, .int .i64 c.rev, .int .i64 c.way] 65)).alloc (.cells #[.int .i64 at_, .int .i64 mk] 87)) := ((Fr.refl _ _).alloc _).alloc _
  refine (begun_any B 3 _ (HG.out.fr hx fun _ h => h.elim) (by omega) (by omega)).mono ?_
  rintro ev w1 ⟨a, r, v, e, rfl, hT, hlo, hf⟩
  dsimp only
  have hC1 : Blk w1 w.heap.size 65 #[.bool c.out, .bool c.gone, .int .i64 c.tag, .int .i64 c.pos, .int .u8 (c.ch.toNat : Int), .int .i64 c.seq, .int .i64 c.rev, .int .i64 c.way] := ((Blk.new _ _ _).alloc _).fr hf fun h => h
  have hP1 : Blk w1 (w.heap.size + 1) 87 #[.int .i64 at_, .int .i64 mk] := by
    have := (Blk.new (w.alloc (.cells #[.bool c.out, .bool c.gone, .int .i64 c.tag, .int .i64 c.pos, .int .u8 (c.ch.toNat : Int), .int .i64 c.seq, .int .i64 c.rev, .int .i64 c.way] 65)) 87 #[.int .i64 at_, .int .i64 mk]).fr hf fun h => h
    rw [World.size_alloc] at this
    exact this
  have HF1 := Lib.hid (hx.trans' hf)
  have HT1 := Lib.hid hT
  have HLo := Lib.hid fun k hk => Nat.le_trans hx.size (hlo k hk)
  have HLo2 : Hid (∀ k, Its a r v e k → w.heap.size + 1 < k) := Lib.hid fun k hk => by have := hlo k hk; simp only [World.size_alloc] at this; omega
  have HC1 := Lib.hid hC1
  have HP1 := Lib.hid hP1
  have y1 := fun i => Blk.cell hC1 i
  clear hx hT hlo hf hC1 hP1
  go_wp2_with fail
  refine (Hmd.out _).mono ?_
  rintro ev w2 ⟨rfl, hf⟩
  dsimp only
  have HF2 := Lib.hid (HF1.out.trans' hf)
  have HT2 := Lib.hid (HT1.out.frn hf)
  have HC2 := Lib.hid (HC1.out.fr hf fun h => h)
  have HP2 := Lib.hid (HP1.out.fr hf fun h => h)
  clear hf y1 HF1 HT1 HC1 HP1 Hmd
  obtain ⟨X, hX⟩ : ∃ X : World, X = (w2.alloc (.cells #[.int .i64 (cEd c).tag, .int .i64 (cEd c).op.kind, .int .i64 (cEd c).op.pos, .int .u8 ((cEd c).op.ch.toNat : Int), .int .i64 (cEd c).op.client, .int .i64 (cEd c).op.seq] 67)).alloc (.cells #[.int .i64 (cRec c).kind, .int .i64 (cRec c).pos, .int .u8 ((cRec c).ch.toNat : Int), .int .i64 (cRec c).client, .int .i64 (cRec c).seq] 26) := ⟨_, rfl⟩
  have hx : Fr None' w2 X := by rw [hX]; exact ((Fr.refl _ _).alloc _).alloc _
  have hE : Blk X w2.heap.size 67 #[.int .i64 (cEd c).tag, .int .i64 (cEd c).op.kind, .int .i64 (cEd c).op.pos, .int .u8 ((cEd c).op.ch.toNat : Int), .int .i64 (cEd c).op.client, .int .i64 (cEd c).op.seq] := by rw [hX]; exact (Blk.new _ _ _).alloc _
  have hR : Blk X (w2.heap.size + 1) 26 #[.int .i64 (cRec c).kind, .int .i64 (cRec c).pos, .int .u8 ((cRec c).ch.toNat : Int), .int .i64 (cRec c).client, .int .i64 (cRec c).seq] := by
    rw [hX]
    have := Blk.new (w2.alloc (.cells #[.int .i64 (cEd c).tag, .int .i64 (cEd c).op.kind, .int .i64 (cEd c).op.pos, .int .u8 ((cEd c).op.ch.toNat : Int), .int .i64 (cEd c).op.client, .int .i64 (cEd c).op.seq] 67)) 26 #[.int .i64 (cRec c).kind, .int .i64 (cRec c).pos, .int .u8 ((cRec c).ch.toNat : Int), .int .i64 (cRec c).client, .int .i64 (cRec c).seq]
    rw [World.size_alloc] at this
    exact this
  have HX := Lib.hid hX
  have HFX := Lib.hid (HF2.out.trans' hx)
  have HTX := Lib.hid (HT2.out.frn hx)
  have HCX := Lib.hid (HC2.out.fr hx fun h => h)
  have HPX := Lib.hid (HP2.out.fr hx fun h => h)
  have HEX := Lib.hid hE
  have HRX := Lib.hid hR
  clear hX hx HF2 HT2 HC2 HP2 hE hR
  go_upto_region 5 with fail
  rw [← HX.out]
  clear HX
  generalize w2.heap.size = b at *
  clear HCX
  have z1 := fun i => Blk.cell HRX.out i
  have z2 := HRX.out.lt
  go_wp2_with fail
  refine (SR.out _ (HG.out.fr HFX.out fun _ h => h.elim)).mono ?_
  rintro ev w3 ⟨g, rfl, hg, hb, hf⟩
  dsimp only
  have HF3 := Lib.hid (HFX.out.trans' hf)
  have HT3 := Lib.hid (HTX.out.frn hf)
  have HP3 := Lib.hid (HPX.out.fr hf fun h => h)
  have HE3 := Lib.hid (HEX.out.fr hf fun h => h)
  have HB3 := Lib.hid hb
  have hg3 := hb.lt
  have HTlt := Lib.hid HTX.out.lt
  have HGn : Hid (¬ Its a r v e g) := Lib.hid fun h => by have := HTlt.out _ h; omega
  have hdn : ¬ Its a r v e w3.heap.size := fun h => by have := HT3.out.lt _ h; omega
  have HDn := Lib.hid hdn
  have hfl : w.heap.size + 1 < w3.heap.size := HP3.out.lt
  have HFl := Lib.hid hfl
  clear hf hg hb HFX HTX HPX HEX HRX z1 z2 hdn
  go_upto_if 34 with fail
  obtain ⟨Y, hY⟩ : ∃ Y : World, Y = w3.alloc (.cells #[.int .i64 0, .int .i64 1, .slice (some ⟨g, 0, none⟩) xr.length xr.length, .bool false] 60) := ⟨_, rfl⟩
  rw [← hY]
  have hx : Fr None' w3 Y := by rw [hY]; exact (Fr.refl _ _).alloc _
  have HD : Hid (Blk Y w3.heap.size 60 #[.int .i64 0, .int .i64 1, .slice (some ⟨g, 0, none⟩) xr.length xr.length, .bool false]) := Lib.hid (by rw [hY]; exact Blk.new _ _ _)
  have HFY := Lib.hid (HF3.out.trans' hx)
  have HTY := Lib.hid (HT3.out.frn hx)
  have HPY := Lib.hid (HP3.out.fr hx fun h => h)
  have HEY := Lib.hid (HE3.out.fr hx fun h => h)
  have HBY := Lib.hid (HB3.out.fr hx fun h => h)
  clear hY hx HF3 HT3 HP3 HE3 HB3
  generalize w3.heap.size = d at *
  go_cut [12] from 18 to 132 (fun s12 wx => s12 = .bool true ∧ ∃ xs g, Hid (encF (fM c up) = .ok xs) ∧ Hid (Blk wx d 60 #[.int .i64 (fFr up), .int .i64 (fTo up), .slice (some ⟨g, 0, none⟩) xs.length xs.length, .bool false]) ∧ Hid (Blk wx g 5 (xs.map bv).toArray) ∧ Hid (TapAt wx a r v e (T1 3)) ∧ Hid (Blk wx (w.heap.size + 1) 87 #[.int .i64 at_, .int .i64 mk]) ∧ Hid (Fr None' w wx) ∧ Hid (¬ Its a r v e g))
  case first =>
    cases up
    case false =>
      go_wp2_with fail
      go_meet
      exact ⟨by first | rfl | trivial, xr, g, Lib.hid HXR.out.1, HD, HBY, HTY, HPY, HFY, HGn⟩
    case true =>
      have y1 := fun i => Blk.cell HEY.out i
      go_wp2_with fail
      refine (SE.out _ (HG.out.fr HFY.out fun _ h => h.elim)).mono ?_
      rintro ev w4 ⟨g4, rfl, hg, hb, hf⟩
      dsimp only
      have HF4 := Lib.hid (HFY.out.trans' hf)
      have HT4 := Lib.hid (HTY.out.frn hf)
      have HP4 := Lib.hid (HPY.out.fr hf fun h => h)
      have hd4 := HD.out.fr hf fun h => h
      have y2 := fun i => Blk.cell hd4 i
      have y3 := fun i => Blk.frozen hd4 i
      have HG4 : Hid (¬ Its a r v e g4) := Lib.hid fun h => by have := HTY.out.lt _ h; omega
      have hgd : g4 ≠ d := by have := HD.out.lt; omega
      have HD5 : Hid (Blk ((((w4.setCell ⟨d, 0, none⟩ (.int .i64 1)).setCell ⟨d, 1, none⟩ (.int .i64 0)).setCell ⟨d, 2, none⟩ (.slice (some ⟨g4, 0, none⟩) xe.length xe.length)).setCell ⟨d, 3, none⟩ (.bool false)) d 60 #[.int .i64 1, .int .i64 0, .slice (some ⟨g4, 0, none⟩) xe.length xe.length, .bool false]) := Lib.hid ((((hd4.set_ 0 (.int .i64 1)).set_ 1 (.int .i64 0)).set_ 2 (.slice (some ⟨g4, 0, none⟩) xe.length xe.length)).set_ 3 (.bool false))
      have hfz : Fr (Only d) w4 ((((w4.setCell ⟨d, 0, none⟩ (.int .i64 1)).setCell ⟨d, 1, none⟩ (.int .i64 0)).setCell ⟨d, 2, none⟩ (.slice (some ⟨g4, 0, none⟩) xe.length xe.length)).setCell ⟨d, 3, none⟩ (.bool false)) := by
        iterate 4 refine Fr.setCell (S := Only d) ?_ (.inr rfl) _
        exact Fr.refl _ _
      have HB5 := Lib.hid (hb.fr hfz fun h => hgd h)
      have HT5 := Lib.hid (HT4.out.fr hfz fun k hk h => HDn.out (by unfold Only at h; rw [← h]; exact hk))
      have HP5 := Lib.hid (HP4.out.fr hfz fun h => by unfold Only at h; have := HFl.out; omega)
      have HF5 := Lib.hid (HF4.out.trans hfz fun i hi hs => by unfold Only at hs; have := HFl.out; omega)
      clear hf hg hb hd4 hfz HF4 HT4 HP4 y1 hgd
      go_wp2_with fail
      go_meet
      exact ⟨by first | rfl | trivial, xe, g4, Lib.hid HXR.out.2, HD5, HB5, HT5, HP5, HF5, HG4⟩
  case rest =>
    obtain ⟨rfl, xs, g, HXS, HD6, HB6, HT6, HP6, HF6, HG6⟩ := hcut
    clear HD HFY HTY HPY HEY HBY HGn SR SE HXR HTlt hfl hg3
    have hsh := f_short c up HXS.out
    have y1 := fun i => Blk.cell HD6.out i
    go_wp2_with fail
    have hRB : RB wc (some ⟨g, 0, none⟩) xs.length xs := HB6.out.reads0 (by simp)
    refine (copied_any (some ⟨g, 0, none⟩) xs.length xs.length xs _ hRB (by omega)).mono ?_
    rintro ev w7 ⟨rr, rfl, ⟨g2, hg2, rfl, hb2⟩, hf⟩
    dsimp only
    have HD7 := Lib.hid (HD6.out.fr hf fun h => h)
    have HB7 := Lib.hid (HB6.out.fr hf fun h => h)
    have HT7 := Lib.hid (HT6.out.frn hf)
    have HP7 := Lib.hid (HP6.out.fr hf fun h => h)
    have HF7 := Lib.hid (HF6.out.trans' hf)
    have HC7 := Lib.hid hb2
    have hn1 : ¬ Its a r v e g2 := fun h => by have := HT6.out.lt _ h; omega
    have hn2 : g2 ≠ d := by have := HD6.out.lt; omega
    have hn3 : g2 ≠ g := by have := HB6.out.lt; omega
    have hn4 : w.heap.size + 1 < g2 := by have := HP6.out.lt; omega
    have HN7 := Lib.hid (And.intro hn1 (And.intro hn2 (And.intro hn3 hn4)))
    clear hf hg2 hb2 hRB HD6 HB6 HT6 HP6 HF6 y1 hn1 hn2 hn3 hn4
    have y2 := fun i => Blk.cell HP7.out i
    obtain ⟨p, hp⟩ : ∃ p : Nat, (p : Int) = at_ % (xs.length : Int) := ⟨(at_ % (xs.length : Int)).toNat, by have := Int.emod_nonneg at_ (show (xs.length : Int) ≠ 0 by omega); omega⟩
    have hpl : p < xs.length := by have := Int.emod_lt_of_pos at_ (show (0 : Int) < (xs.length : Int) by omega); omega
    have hpx : xs[p]? = some xs[p] := List.getElem?_eq_getElem hpl
    obtain ⟨u, hu⟩ : ∃ u, u = xs[p] := ⟨_, rfl⟩
    rw [← hu] at hpx
    have HPX := Lib.hid hpx
    clear hu hpx
    go_wp2_with (go_at_call 12; refine (Hi.out _ _ (by omega) (by omega) _).mono ?_; rintro e0 w0 ⟨rfl, rfl⟩)
    rw [← hp]
    clear hp
    have e1 : IntKind.i64.wrap (1 + mk % 255) = 1 + mk % 255 := IntWalk.i64_in _ (by omega)
    obtain ⟨M, hM⟩ : ∃ M : Nat, M = 1 + (mk % 255).toNat := ⟨_, rfl⟩
    have hMi : 1 + mk % 255 = (M : Int) := by omega
    have hM2 : M < 256 := by omega
    have e1b := e1.trans hMi
    clear e1 hMi
    have hcv : (M : Int) % 256 = (M : Int) := by omega
    obtain ⟨u', hu'⟩ : ∃ u', u' = u ^^^ UInt8.ofNat M := ⟨_, rfl⟩
    have hxv : bits .xor .u8 (u.toNat : Int) (M : Int) = (u'.toNat : Int) := by rw [hu']; exact xor_u8 u M hM2
    have HU := Lib.hid hu'
    clear hu'
    have hc2 := HC7.out.cell p
    have hc3 : ((xs.map bv).toArray)[p]? = some (.int .u8 (u.toNat : Int)) := by rw [List.getElem?_toArray, List.getElem?_map, HPX.out]; rfl
    rw [hc3] at hc2
    have hc4 := HC7.out.frozen p
    have hp0 : (0 : Int) ≤ (p : Int) := by omega
    have hp1 : (p : Int) < (xs.length : Int) := by omega
    clear hc3
    have HM := Lib.hid hM
    clear hM
    refine wp_region_tail 13 (by kernel_rfl) (by kernel_rfl) ?_
    simp only [List.take_succ_cons, List.take_zero, List.drop_succ_cons, List.drop_zero]
    repeat (go_big_quiet_step (exact (Calls.mono (Hi.out _ _ (by omega) (by omega) _) fun e w2 h => ⟨h.1, h.2.symm⟩) _))
    refine wpQuiet_nil ?_
    go_upto_region 13 with fail
    have hst : Fr (Only g2) w7 ((w7.setCell ⟨g2, p, none⟩ (.int .u8 (u'.toNat : Int))).drew) := ((Fr.refl _ _).setCell (.inr (show Only g2 g2 from rfl)) _).drew
    have hC8 : Blk ((w7.setCell ⟨g2, p, none⟩ (.int .u8 (u'.toNat : Int))).drew) g2 5 ((xs.set p u').map bv).toArray := by
      have := (HC7.out.set_ p (.int .u8 (u'.toNat : Int))).drew
      have e : ((xs.map bv).toArray).setIfInBounds p (.int .u8 (u'.toNat : Int)) = ((xs.set p u').map bv).toArray := by
        rw [List.setIfInBounds_toArray, List.map_set]
        rfl
      rw [e] at this
      exact this
    have hD8 := HD7.out.fr hst fun h => HN7.out.2.1 h.symm
    have hB8 := HB7.out.fr hst fun h => HN7.out.2.2.1 h.symm
    have hT8 := HT7.out.fr hst fun k hk h => HN7.out.1 (by unfold Only at h; rw [← h]; exact hk)
    have hF8 := HF7.out.trans hst fun i hi hs => by unfold Only at hs; have := HN7.out.2.2.2; omega
    clear hst y2 hc2 hc4 hp0 hp1 hcv hxv e1b HC7 HD7 HB7 HT7 HF7 HP7
    generalize ((w7.setCell ⟨g2, p, none⟩ (.int .u8 (u'.toNat : Int))).drew) = w8 at *
    have HC8 := Lib.hid hC8
    have HD8 := Lib.hid hD8
    have HB8 := Lib.hid hB8
    have HT8 := Lib.hid hT8
    have HF8 := Lib.hid hF8
    have y1 := fun i => Blk.cell hD8 i
    have hfs : ∃ L : Int, decF (xs.set p u') = .error (64, L) ∧ seeF (T1 3) (fFr up) (fTo up) (xs.set p u') = ((64, L), T1 3) := by
      have := flip_see c up HXS.out p u mk HPX.out
      rw [← HM.out, ← HU.out] at this
      exact this
    obtain ⟨L, hd64, hs64⟩ := hfs
    have hls : (xs.set p u').length = xs.length := List.length_set
    have hRB : RB w8 (some ⟨g2, 0, none⟩) xs.length (xs.set p u') := hC8.reads0 (by simp)
    have hS := see_any B a r v e (T1 3) (fFr up) (fTo up) (some ⟨g2, 0, none⟩) xs.length xs.length (xs.set p u') up w8 (HG.out.fr hF8 fun _ h => h.elim) hT8 hRB (Nat.le_refl _)
    rw [hs64] at hS
    unfold dgV at hS
    have HS := Lib.hid hS
    have HD64 := Lib.hid hd64
    clear hC8 hD8 hB8 hT8 hF8 hRB hS hd64 hs64 hls
    go_wp2_with fail
    refine HS.out.mono ?_
    rintro ev w9 ⟨X, rfl, hX, hT, hf⟩
    obtain ⟨ge, rfl, hFt⟩ : ∃ g, X = errV g ∧ Fault w9 g L 64 := by
      rcases hX with ⟨h1, _⟩ | ⟨_, g, h1, h2⟩
      · cases h1
      · exact ⟨g, h1, h2⟩
    dsimp only
    have HF9 := Lib.hid (HF8.out.trans hf fun i hi hs => by have := HLo.out i hs; omega)
    have HT9 := Lib.hid hT
    have HFt := Lib.hid hFt
    have HC9 := Lib.hid (HC8.out.fr hf HN7.out.1)
    have HD9 := Lib.hid (HD8.out.fr hf HDn.out)
    have HB9 := Lib.hid (HB8.out.fr hf HG6.out)
    clear hf hT hFt hX HF8 HT8 HC8 HD8 HB8 y1 HS
    have hdc := decode_any B (some ⟨g2, 0, none⟩) xs.length xs.length (xs.set p u') w9 (HG.out.fr HF9.out fun _ h => h.elim) (HC9.out.reads0 (by simp)) (Nat.le_refl _)
    unfold DecPost at hdc
    rw [HD64.out] at hdc
    have HDc := Lib.hid hdc
    clear hdc
    go_wp2_with fail
    refine HDc.out.mono ?_
    rintro ev w10 ⟨gf, rfl, hFt2, hf⟩
    unfold msgV msgCells zeroM opCells
    dsimp only [List.cons_append, List.nil_append]
    have HF10 := Lib.hid (HF9.out.trans' hf)
    have HT10 := Lib.hid (HT9.out.frn hf)
    have HFe := Lib.hid (HFt.out.fr hf fun h => h)
    have HFf := Lib.hid hFt2
    have HD10 := Lib.hid (HD9.out.fr hf fun h => h)
    have HB10 := Lib.hid (HB9.out.fr hf fun h => h)
    clear hf hFt2 HF9 HT9 HFt HC9 HD9 HB9 HDc
    go_upto_region 15 with fail
    obtain ⟨w11, hw11⟩ : ∃ w11 : World, w11 = w10.alloc (.cells #[.int .i64 0, .int .i64 0, .int .i64 0, .int .i64 0, .int .i64 0, .int .i64 0, .int .i64 0, .int .i64 0, .int .i64 0, .int .i64 0, .int .i64 0, .int .u8 0, .int .i64 0, .int .i64 0] 28) := ⟨_, rfl⟩
    rw [← hw11]
    have hx : Fr None' w10 w11 := by rw [hw11]; exact (Fr.refl _ _).alloc _
    have HF := Lib.hid (HF10.out.trans' hx)
    have HT := Lib.hid (HT10.out.frn hx)
    have HE1 := Lib.hid (HFe.out.fr hx fun h => h)
    have HE2 := Lib.hid (HFf.out.fr hx fun h => h)
    have HD := Lib.hid (HD10.out.fr hx fun h => h)
    have HB := Lib.hid (HB10.out.fr hx fun h => h)
    clear hw11 hx HF10 HT10 HFe HFf HD10 HB10
    unfold errV
    go_cut [113] (fun s wx => s = .bool false ∧ Hid (TapAt wx a r v e (T1 3)) ∧ Hid (Fr None' w wx) ∧ Hid (Blk wx d 60 #[.int .i64 (fFr up), .int .i64 (fTo up), .slice (some ⟨g, 0, none⟩) xs.length xs.length, .bool false]) ∧ Hid (Blk wx g 5 (xs.map bv).toArray))
    case first =>
      go_wp2_with fail
      refine (code_fault ge L 64 _ (HG.out.fr HF.out fun _ h => h.elim).err HE1.out).mono ?_
      rintro ev wk ⟨rfl, hf⟩
      dsimp only
      have HFn := Lib.hid (HF.out.trans' hf)
      have HTn := Lib.hid (HT.out.frn hf)
      have HE1n := Lib.hid (HE1.out.fr hf fun h => h)
      have HE2n := Lib.hid (HE2.out.fr hf fun h => h)
      have HDn2 := Lib.hid (HD.out.fr hf fun h => h)
      have HBn := Lib.hid (HB.out.fr hf fun h => h)
      clear hf HF HT HE1 HE2 HD HB
      have HF := HFn; have HT := HTn; have HE1 := HE1n; have HE2 := HE2n; have HD := HDn2; have HB := HBn
      clear HFn HTn HE1n HE2n HDn2 HBn
      go_wp2_with fail
      refine (code_fault gf L 64 _ (HG.out.fr HF.out fun _ h => h.elim).err HE2.out).mono ?_
      rintro ev wk ⟨rfl, hf⟩
      dsimp only
      have HFn := Lib.hid (HF.out.trans' hf)
      have HTn := Lib.hid (HT.out.frn hf)
      have HE1n := Lib.hid (HE1.out.fr hf fun h => h)
      have HE2n := Lib.hid (HE2.out.fr hf fun h => h)
      have HDn2 := Lib.hid (HD.out.fr hf fun h => h)
      have HBn := Lib.hid (HB.out.fr hf fun h => h)
      clear hf HF HT HE1 HE2 HD HB
      have HF := HFn; have HT := HTn; have HE1 := HE1n; have HE2 := HE2n; have HD := HDn2; have HB := HBn
      clear HFn HTn HE1n HE2n HDn2 HBn
      go_wp2_with fail
      refine (place_fault ge L 64 _ (HG.out.fr HF.out fun _ h => h.elim).err HE1.out).mono ?_
      rintro ev wk ⟨rfl, hf⟩
      dsimp only
      have HFn := Lib.hid (HF.out.trans' hf)
      have HTn := Lib.hid (HT.out.frn hf)
      have HE1n := Lib.hid (HE1.out.fr hf fun h => h)
      have HE2n := Lib.hid (HE2.out.fr hf fun h => h)
      have HDn2 := Lib.hid (HD.out.fr hf fun h => h)
      have HBn := Lib.hid (HB.out.fr hf fun h => h)
      clear hf HF HT HE1 HE2 HD HB
      have HF := HFn; have HT := HTn; have HE1 := HE1n; have HE2 := HE2n; have HD := HDn2; have HB := HBn
      clear HFn HTn HE1n HE2n HDn2 HBn
      go_wp2_with fail
      refine (place_fault gf L 64 _ (HG.out.fr HF.out fun _ h => h.elim).err HE2.out).mono ?_
      rintro ev wk ⟨rfl, hf⟩
      dsimp only
      have HFn := Lib.hid (HF.out.trans' hf)
      have HTn := Lib.hid (HT.out.frn hf)
      have HE1n := Lib.hid (HE1.out.fr hf fun h => h)
      have HE2n := Lib.hid (HE2.out.fr hf fun h => h)
      have HDn2 := Lib.hid (HD.out.fr hf fun h => h)
      have HBn := Lib.hid (HB.out.fr hf fun h => h)
      clear hf HF HT HE1 HE2 HD HB
      have HF := HFn; have HT := HTn; have HE1 := HE1n; have HE2 := HE2n; have HD := HDn2; have HB := HBn
      clear HFn HTn HE1n HE2n HDn2 HBn
      have qL : (L != L) = false := by simp
      go_wp2_with fail
      refine (epoch_any a r v e (T1 3) _ HT.out).mono ?_
      rintro ev wk ⟨rfl, rfl⟩
      dsimp only [T1]
      go_wp2_with fail
      refine (known_got (L := [1]) a r v e (T1 3) _ HT.out (by simp [T1]) first_known).mono ?_
      rintro ev wk ⟨A1, c1, rfl, _, _, hf⟩
      dsimp only
      have HFn := Lib.hid (HF.out.trans' hf)
      have HTn := Lib.hid (HT.out.frn hf)
      have HE1n := Lib.hid (HE1.out.fr hf fun h => h)
      have HE2n := Lib.hid (HE2.out.fr hf fun h => h)
      have HDn2 := Lib.hid (HD.out.fr hf fun h => h)
      have HBn := Lib.hid (HB.out.fr hf fun h => h)
      clear hf HF HT HE1 HE2 HD HB
      have HF := HFn; have HT := HTn; have HE1 := HE1n; have HE2 := HE2n; have HD := HDn2; have HB := HBn
      clear HFn HTn HE1n HE2n HDn2 HBn
      dsimp only [List.length_cons, List.length_nil]
      go_wp2_with fail
      refine (made_got (L := []) a r v e (T1 3) 1 _ HT.out (by simp [T1]) (fun p hp => by simp [T1] at hp) (fun M hp _ => perm_nil (by simpa [sel, T1] using hp))).mono ?_
      rintro ev wk ⟨A2, c2, rfl, _, _, hf⟩
      dsimp only
      have HFn := Lib.hid (HF.out.trans' hf)
      have HTn := Lib.hid (HT.out.frn hf)
      have HE1n := Lib.hid (HE1.out.fr hf fun h => h)
      have HE2n := Lib.hid (HE2.out.fr hf fun h => h)
      have HDn2 := Lib.hid (HD.out.fr hf fun h => h)
      have HBn := Lib.hid (HB.out.fr hf fun h => h)
      clear hf HF HT HE1 HE2 HD HB
      have HF := HFn; have HT := HTn; have HE1 := HE1n; have HE2 := HE2n; have HD := HDn2; have HB := HBn
      clear HFn HTn HE1n HE2n HDn2 HBn
      dsimp only [List.length_nil]
      go_wp2_with fail
      go_meet
      exact ⟨by first | rfl | trivial, HT, HF, HD, HB⟩
    case rest =>
      clear HF HT HE1 HE2 HD HB
      obtain ⟨rfl, HT, HF, HD, HB⟩ := hcut
      have y1 := fun i => Blk.cell HD.out i
      have hsn := seen_any B a r v e (T1 3) (fFr up) (fTo up) (some ⟨g, 0, none⟩) xs.length xs.length xs false _ (HG.out.fr HF.out fun _ h => h.elim) (fun k hk => Nat.le_trans HG.out.le (HLo.out k hk)) HT.out (HB.out.reads0 (by simp)) (by omega)
      rw [fT_see c up HXS.out] at hsn
      unfold dgV at hsn
      have HSn := Lib.hid hsn
      clear hsn
      go_wp2_with fail
      refine HSn.out.mono ?_
      rintro ev wk ⟨rfl, hT, hf⟩
      dsimp only
      obtain ⟨f1, f2, f3, f4, f5⟩ := fT_facts c up
      have HFn := Lib.hid (HF.out.trans hf fun i hi hs => by have := HLo.out i hs; omega)
      have HTn := Lib.hid hT
      clear hT hf HSn HF HT HD HB y1
      have He := epoch_any a r v e (fT c up) wk HTn.out
      rw [f1] at He
      have HEp := Lib.hid He
      have HF5 := Lib.hid (And.intro f2 (And.intro f3 (And.intro f4 f5)))
      clear He f1 f2 f3 f4 f5
      generalize fT c up = T9 at *
      go_wp2_with fail
      refine HEp.out.mono ?_
      rintro ev wj ⟨rfl, rfl⟩
      dsimp only
      go_wp2_with fail
      refine (known_any a r v e T9 _ HTn.out (by have := HF5.out.2.1; omega)).mono ?_
      rintro ev wk2 ⟨A1, c1, rfl, _, _, _, hf⟩
      dsimp only
      have HTm := Lib.hid (HTn.out.frn hf)
      have HFm := Lib.hid (HFn.out.trans' hf)
      clear hf HTn HFn HEp
      go_wp2_with fail
      refine (made_any sortSpec a r v e T9 1 _ HTm.out (by have := HF5.out.2.2.1; omega) HF5.out.2.2.2).mono ?_
      rintro ev wk3 ⟨M9, hp9, A2, c2, M8, rfl, _, _, _, _, _, hf⟩
      dsimp only
      have hl : T9.records.length + M9.length = 2 := by have := hp9.length_eq; have := HF5.out.1; omega
      have HFz := Lib.hid (HFm.out.trans' hf)
      have es : IntKind.i64.wrap ((T9.records.length : Int) + (M9.length : Int)) = 2 := by rw [show (T9.records.length : Int) + (M9.length : Int) = 2 by omega]; rfl
      clear hf hp9 hl HTm HFm HF5
      go_wp2
      go_ret
      exact ⟨rfl, HFz.out⟩
end Go.Proofs.YtodkhoclbhdihaaGreatDoor
