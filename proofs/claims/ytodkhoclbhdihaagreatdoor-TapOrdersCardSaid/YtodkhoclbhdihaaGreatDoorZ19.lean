/-
  Contract of raw: the datagrams of a script's steps, 80 at most.
-/
import Derived.Test.YtodkhoclbhdihaaGreatDoorZ18
import Derived.Test.YtodkhoclbhdihaaGreatDoorZ14
import Derived.Test.YtodkhoclbhdihaaGreatDoorZ6
import Derived.Deep.Cut
import Derived.Test.YtodkhoclbhdihaaGreatDoorZ13
import Derived.Test.YtodkhoclbhdihaaGreatDoorZ3
import Derived.Test.YtodkhoclbhdihaaGreatDoorZ11
import Derived.Deep.DeepCutAuto
namespace Go.Proofs.YtodkhoclbhdihaaGreatDoor
open Go.RowKit

theorem scr_at {w : World} {A : Option Addr} {n k : Nat} {l : List GScr} (h : Reads w 20 A n (scrs l)) (hk : k < n) : ∃ b off o, A = some ⟨b, off, none⟩ ∧ b < w.heap.size ∧ l[k]? = some o ∧ True := by
  obtain ⟨b, off, rfl, hb, hc⟩ := h.2 (by omega)
  have hl : l.length = n := by have := h.1; rw [scrs_len] at this; omega
  exact ⟨b, off, l[k], rfl, hb, List.getElem?_eq_getElem (by omega), trivial⟩
def scrV (o : GScr) : Array Value := (scrCells o).toArray
def zeroS : Array Value := #[.int .i64 0, .bool false, .int .i64 0, .int .i64 0, .int .i64 0, .int .i64 0, .int .i64 0, .int .i64 0, .int .i64 0, .int .i64 0, .int .i64 0, .int .i64 0, .int .i64 0, .int .i64 0, .int .i64 0, .int .u8 0, .int .i64 0, .int .i64 0, .slice none 0 0, .int .i64 0]
theorem scr_one (o : GScr) : ∀ v ∈ (scrV o).toList, v.oneCell' = true := by
  intro v hv
  simp only [scrV, scrCells, msgCells, opCells, List.cons_append, List.nil_append, List.mem_cons, List.not_mem_nil, or_false] at hv
  rcases hv with rfl | rfl | rfl | rfl | rfl | rfl | rfl | rfl | rfl | rfl | rfl | rfl | rfl | rfl | rfl | rfl | rfl | rfl | rfl | rfl <;> rfl
theorem scr_store (o : GScr) (w : World) : (storeCells ⟨w.heap.size, 0, none⟩ (scrV o).toList).run Tryz.prog (w.alloc (.cells zeroS 50)) = .ok () (w.alloc (.cells (scrV o) 50)) := by
  have hl : (scrV o).toList.length = 20 := rfl
  have := run_storeCells_at Tryz.prog w.heap.size 0 50 (scrV o).toList 0 zeroS _ (Blk.new w 50 zeroS) (by rw [hl]; decide) (scr_one o)
  rw [this, hl]
  have e : zeroS.toList.drop (0 + 0 + 20) = [] := List.drop_of_length_le (by decide)
  have e2 : zeroS.toList.take (0 + 0) = [] := rfl
  rw [e, e2, List.append_nil, List.nil_append, alloc_setRow]
theorem scr_load {w : World} {A : Option Addr} {n k : Nat} {l : List GScr} {o : GScr} {b off : Nat} (h : Reads w 20 A n (scrs l)) (hk : k < n) (hA : A = some ⟨b, off, none⟩) (ho : l[k]? = some o) :
    (loadCells ⟨b, off + k * 20, none⟩ 20).run Tryz.prog w = .ok (scrV o) w := by
  have hl : l.length = n := by have := h.1; rw [scrs_len] at this; omega
  obtain ⟨b', off', hA', _, hc⟩ := h.2 (by omega)
  rw [hA] at hA'
  cases hA'
  have hlk : l[k] = o := by
    rw [List.getElem?_eq_getElem (by omega)] at ho
    exact Option.some.inj ho
  have := run_loadCells_list (P := Tryz.prog) (w := w) ⟨b, off + k * 20, none⟩ (scrCells o) (fun j v hv => by
    have hj : j < 20 := (List.getElem?_eq_some_iff.1 hv).1
    have e := scrs_at (l := l) (k := k) (j := j) (by omega) hj
    rw [hlk, hv] at e
    have := hc _ _ e
    rw [add_none, Nat.add_assoc, this])
  exact this
/-- A datagram, with where its bytes lie. -/
structure GDg where
  fr : Int
  to_ : Int
  A : Option Addr
  n : Nat
  c : Nat
  sp : Bool
  xs : List UInt8
def dgCells (d : GDg) : List Value := [.int .i64 d.fr, .int .i64 d.to_, .slice d.A d.n d.c, .bool d.sp]
def dgs (l : List GDg) : List Value := l.flatMap dgCells
theorem dgs_len (l : List GDg) : (dgs l).length = l.length * 4 := by
  unfold dgs
  induction l with
  | nil => rfl
  | cons a l ih => rw [List.flatMap_cons, List.length_append, ih, List.length_cons]; simp [dgCells]; omega
structure DgOk (S : Nat → Prop) (w : World) (d : GDg) : Prop where
  bytes : RB w d.A d.n d.xs
  cap : d.n ≤ d.c
  len : d.n ≤ 140737488355328
  foot : ∀ k, Foot d.A d.n k → ¬ S k
theorem DgOk.frn {S : Nat → Prop} {w w' : World} {d : GDg} (h : DgOk S w d) (hf : Fr None' w w') : DgOk S w' d := ⟨h.bytes.frn hf, h.cap, h.len, h.foot⟩
theorem DgOk.fr {S : Nat → Prop} {w w' : World} {d : GDg} (h : DgOk S w d) (hf : Fr S w w') : DgOk S w' d := ⟨h.bytes.fr hf h.foot, h.cap, h.len, h.foot⟩
abbrev DGT : TypeId := 60
abbrev DGL : TypeId := 55
theorem dg_info : (Tryz.prog.info? DGT).map (fun i => (i.zero, i.size, i.bytes)) = some (some (.agg #[.int .i64 0, .int .i64 0, .slice none 0 0, .bool false]), 4, 48) := by kernel_rfl
theorem dgs_snoc (l : List GDg) (d : GDg) : dgs (l ++ [d]) = dgs l ++ [.int .i64 d.fr, .int .i64 d.to_, .slice d.A d.n d.c, .bool d.sp] := by simp [dgs, dgCells]
def RawPost (S : Nat → Prop) (w : World) (ev : Ending) (w' : World) : Prop := ∃ A k c ds, ev = .returned (.slice A k c) ∧ k ≤ c ∧ k ≤ 80 ∧ ds.length = k ∧ Reads w' 4 A k (dgs ds) ∧ (∀ j, Foot A k j → w.heap.size ≤ j) ∧ (∀ d ∈ ds, DgOk S w' d) ∧ Fr None' w w'
def Rawed (S : Nat → Prop) (w : World) (l : Value) (wr : World) : Prop := ∃ ds : List GDg, wr.ownsRow w.heap.size DGT 4 l ds.length (dgs ds) ∧ ds.length ≤ 80 ∧ (∀ d ∈ ds, DgOk S wr d ∧ ∀ j, Foot d.A d.n j → l.ownBlock ≠ some j) ∧ Fr None' w wr
theorem RB.foot_lt {w : World} {A : Option Addr} {n : Nat} {l : List UInt8} (h : RB w A n l) : ∀ k, Foot A n k → k < w.heap.size := by
  rintro k ⟨hn, a, rfl, rfl⟩
  obtain ⟨b, off, e, hb, _⟩ := h.2 hn
  cases e
  exact hb
/-- One datagram more. -/
theorem rawed_app {S : Nat → Prop} {w wr wx : World} {l v' : Value} {w' : World} {ds : List GDg} {d : GDg} (hown : wr.ownsRow w.heap.size DGT 4 l ds.length (dgs ds)) (h80 : ds.length < 80) (hok : ∀ d ∈ ds, DgOk S wr d ∧ ∀ j, Foot d.A d.n j → l.ownBlock ≠ some j) (hf : Fr None' w wr) (hx : Fr None' wr wx)
    (hd : DgOk S wx d) (hdn : ∀ j, Foot d.A d.n j → l.ownBlock ≠ some j) (ho : w'.ownsRow w.heap.size DGT 4 v' (ds.length + 1) (dgs ds ++ dgCells d)) (hf' : Fr (fun k => l.ownBlock = some k) wx w') (hat : v'.ownBlock = l.ownBlock ∨ v'.ownBlock = some wx.heap.size) : Rawed S w v' w' := by
  have key : ∀ e : GDg, DgOk S wx e → (∀ j, Foot e.A e.n j → l.ownBlock ≠ some j) → DgOk S w' e ∧ ∀ j, Foot e.A e.n j → v'.ownBlock ≠ some j := fun e he hn => by
    refine ⟨⟨he.bytes.fr hf' fun k hk h => hn k hk h, he.cap, he.len, he.foot⟩, fun j hj h => ?_⟩
    rcases hat with h2 | h2
    · exact hn j hj (h2 ▸ h)
    · rw [h2] at h
      have := RB.foot_lt he.bytes j hj
      cases h
      omega
  refine ⟨ds ++ [d], ?_, by rw [List.length_append]; simp; omega, fun e he => ?_, (hf.trans' hx).trans hf' fun i hi hs => by have := (hown.lt i hs).1; omega⟩
  · rw [List.length_append, show dgs (ds ++ [d]) = dgs ds ++ dgCells d by simp [dgs]]
    exact ho
  · rcases List.mem_append.1 he with he | he
    · exact key e ((hok e he).1.frn hx) (hok e he).2
    · have := List.mem_singleton.1 he
      subst this
      exact key e hd hdn

set_option maxRecDepth 100000 in
set_option maxHeartbeats 16000000 in
theorem raw_any (B : Nat) (S : Nat → Prop) (A : Option Addr) (n c : Nat) (scr : List GScr) (w : World) (hG : Glb B w) (hs : ScriptAt w A n scr) (hn : n ≤ 140737488355328) (hS : ∀ o ∈ scr, ∀ k, Foot o.bA o.bn k → ¬ S k) (hSlt : ∀ k, S k → k < w.heap.size) :
    Calls Tryz.prog 25 #[.slice A n c] w fun ev w' => RawPost S w ev w' := by
  have HG := Lib.hid hG
  have HS := Lib.hid hs
  have HFt := Lib.hid hS
  have HSl := Lib.hid hSlt
  have Hsent := Lib.hid fun (m : GMsg) fr to_ w (h : Glb B w) => sent_any B fr to_ m w h
  unfold msgV msgCells opCells at Hsent
  simp only [List.cons_append, List.nil_append] at Hsent
  have H0 : Hid (Rawed S w (.slice none 0 0) w) := Lib.hid ⟨[], World.ownsRow_nil _ _ _ _, by simp, fun d hd => (by cases hd), Fr.refl _ _⟩
  clear hG hs hS hSlt
  go_enter Tryz.func25, Tryz.ntmps25
  go_wp2
  go_loopw [3, 4] (fun l i wr => ∃ k : Nat, k ≤ n ∧ i = .int .i64 (k : Int) ∧ Rawed S w l wr) (fun _ i _ => n - (intOf i).toNat)
  case atStart => exact ⟨0, Nat.zero_le _, rfl, H0.out⟩
  case round =>
    clear H0
    obtain ⟨k, hk, rfl, ds, hown, h80, hok, hf⟩ := hrel
    obtain ⟨A1, c1, rfl, hc1, hr1, hft1⟩ := own_reads hown
    have HR1 := Lib.hid (And.intro hc1 (And.intro hr1 hft1))
    have HOwn := Lib.hid hown
    have HOk := Lib.hid hok
    have HF := Lib.hid hf
    clear hc1 hr1 hft1 hown hok hf
    by_cases hlt : k < n
    · by_cases h8 : ds.length < 80
      · skip
        have hso := HS.out.cells.frn HF.out
        obtain ⟨b, off, o, rfl, hb, ho, y0⟩ := scr_at hso hlt
        have hld := scr_load hso hlt rfl ho
        have hst := scr_store o wr
        have hom : o ∈ scr := List.mem_of_getElem? ho
        have HO := Lib.hid ((HS.out.each o hom).frn HF.out)
        have HOF := Lib.hid (HFt.out o hom)
        have HOM := Lib.hid hom
        unfold zeroS at hst
        clear hso ho hom y0
        have hd8 : decide ((ds.length : Int) < 80) = true := by simp; omega
        go_upto_region 6 with (refine wpList_run rfl (load_run rfl rfl (Tryz.isAgg50 _) (Tryz.sizeOf50 _) hld) ?_)
        obtain ⟨X, hX⟩ : ∃ X : World, X = wr.alloc (.cells (scrV o) 50) := ⟨_, rfl⟩
        rw [← hX]
        have hbX : Blk X wr.heap.size 50 #[.int .i64 o.kind, .bool o.which, .int .i64 o.fr, .int .i64 o.to_, .int .i64 o.msg.kind, .int .i64 o.msg.epoch, .int .i64 o.msg.client, .int .i64 o.msg.have_, .int .i64 o.msg.first, .int .i64 o.msg.num, .int .i64 o.msg.ack, .int .i64 o.msg.rev, .int .i64 o.msg.tag, .int .i64 o.msg.op.kind, .int .i64 o.msg.op.pos, .int .u8 (o.msg.op.ch.toNat : Int), .int .i64 o.msg.op.client, .int .i64 o.msg.op.seq, .slice o.bA o.bn o.bc, .int .i64 o.num] := by rw [hX]; exact Blk.new _ _ _
        have hx : Fr None' wr X := by rw [hX]; exact (Fr.refl _ _).alloc _
        have yX := fun i => Blk.cell hbX i
        clear hX hbX hld hst hd8
        by_cases h1 : o.kind = 1
        · have q1 : (o.kind == 1) = true := by simpa using h1
          clear h1
          go_wp2_with fail
          have HF1 := Lib.hid (HF.out.trans' hx)
          refine (Hsent.out o.msg o.fr o.to_ _ (HG.out.fr HF1.out fun _ h => h.elim)).mono ?_
          rintro ev w1 hsp
          unfold SentPost at hsp
          cases he : encF o.msg with
          | error x =>
            rw [he] at hsp
            unfold dgV at hsp
            obtain ⟨rfl, hf1⟩ := hsp
            clear he
            dsimp only
            have HF2 := Lib.hid (HF1.out.trans' hf1)
            have hfr : Fr None' wr w1 := hx.trans' hf1
            have HNew : Hid (Rawed S w (.slice A1 ds.length c1) (w1.alloc (.cells #[.int .i64 o.fr, .int .i64 o.to_, .slice none 0 0, .bool false] DGT))) := Lib.hid ⟨ds, own_fr HOwn.out (hfr.alloc _) fun _ _ h => h, h80, fun d hd => ⟨(HOk.out d hd).1.frn (hfr.alloc _), (HOk.out d hd).2⟩, HF2.out.alloc _⟩
            clear hf1 hfr hx yX
            go_wp2
            go_round
            case rel => exact ⟨k + 1, by omega, by go_num, HNew.out⟩
            case measure => simp [intOf]; omega
          | ok xs =>
            rw [he] at hsp
            unfold dgV at hsp
            obtain ⟨g, rfl, hg, hb1, hf1⟩ := hsp
            have hsh := enc_short he
            clear he
            dsimp only
            have HF2 := Lib.hid (HF1.out.trans' hf1)
            have hfr : Fr None' wr w1 := hx.trans' hf1
            have hgs : w.heap.size ≤ g := Nat.le_trans HF1.out.size hg
            obtain ⟨w2, hw2⟩ : ∃ w2, w2 = w1.alloc (.cells #[.int .i64 o.fr, .int .i64 o.to_, .slice (some ⟨g, 0, none⟩) xs.length xs.length, .bool false] DGT) := ⟨_, rfl⟩
            have hf2 : Fr None' w1 w2 := by rw [hw2]; exact (Fr.refl _ _).alloc _
            have hx3 : Fr None' w2 (w2.alloc (.cells #[.int .i64 o.fr, .int .i64 o.to_, .slice (some ⟨g, 0, none⟩) xs.length xs.length, .bool false] DGT)) := (Fr.refl _ _).alloc _
            have hfr3 := (hfr.trans' hf2).trans' hx3
            have HF3 := Lib.hid ((HF2.out.trans' hf2).trans' hx3)
            have hDb : Blk w2 w1.heap.size DGT #[.int .i64 o.fr, .int .i64 o.to_, .slice (some ⟨g, 0, none⟩) xs.length xs.length, .bool false] := by rw [hw2]; exact Blk.new _ _ _
            have z1 := fun i => Blk.cell hDb i
            obtain ⟨v3, w3, r3, o3, f3, at3⟩ := app_any (P := Tryz.prog) (t := DGL) (ty := DGL) (e := DGT) (size := 4) (bytes := 48) Tryz.underlying55 dg_info rfl (by omega) (own_fr HOwn.out hfr3 fun _ _ h => h) (one_reads w2 DGT [.int .i64 o.fr, .int .i64 o.to_, .slice (some ⟨g, 0, none⟩) xs.length xs.length, .bool false]) (c := 1) (by simp [Value.oneCell']) (by omega) (by omega) HF3.out.size
            have hgr : wr.heap.size ≤ g := Nat.le_trans hx.size hg
            have hb3 : Blk (w2.alloc (.cells #[.int .i64 o.fr, .int .i64 o.to_, .slice (some ⟨g, 0, none⟩) xs.length xs.length, .bool false] DGT)) g 5 (xs.map bv).toArray := (hb1.fr hf2 fun h => h).fr hx3 fun h => h
            have HNew : Hid (Rawed S w v3 w3) := Lib.hid (rawed_app (d := ⟨o.fr, o.to_, some ⟨g, 0, none⟩, xs.length, xs.length, false, xs⟩) HOwn.out h8 HOk.out HF.out hfr3 ⟨hb3.reads0 (by simp), Nat.le_refl _, Nat.le_trans hsh (by omega), fun j hj hs => by have h1 := HSl.out j hs; obtain ⟨_, a', e', rfl⟩ := hj; cases e'; dsimp only at h1; omega⟩ (fun j hj h => by have h1 := (HOwn.out.lt j h).2; obtain ⟨_, a', e', rfl⟩ := hj; cases e'; dsimp only at h1; omega) o3 f3 at3)
            clear hf1 hfr hx hf2 hx3 hfr3 hDb o3 f3 at3 hb3 hgr hgs hsh hb1 hg yX
            have HW2 := Lib.hid hw2
            clear hw2
            go_upto_region 10 with fail
            rw [← HW2.out]
            go_wp2_with (at_builtin; refine wpList_app rfl _ _ _ rfl rfl rfl r3 ?_)
            go_round
            case rel => exact ⟨k + 1, by omega, by go_num, HNew.out⟩
            case measure => simp [intOf]; omega
        · have q1 : (o.kind == 1) = false := by simpa using h1
          have H1 := Lib.hid h1
          clear h1
          by_cases h2 : o.kind = 2
          · have q2 : (o.kind == 2) = true := by simpa using h2
            clear h2
            have hx3 : Fr None' X (X.alloc (.cells #[.int .i64 o.fr, .int .i64 o.to_, .slice o.bA o.bn o.bc, .bool false] DGT)) := (Fr.refl _ _).alloc _
            have hfr3 := hx.trans' hx3
            have HF3 := Lib.hid (HF.out.trans' hfr3)
            obtain ⟨v3, w3, r3, o3, f3, at3⟩ := app_any (P := Tryz.prog) (t := DGL) (ty := DGL) (e := DGT) (size := 4) (bytes := 48) Tryz.underlying55 dg_info rfl (by omega) (own_fr HOwn.out hfr3 fun _ _ h => h) (one_reads X DGT [.int .i64 o.fr, .int .i64 o.to_, .slice o.bA o.bn o.bc, .bool false]) (c := 1) (by simp [Value.oneCell']) (by omega) (by omega) HF3.out.size
            have hlo : ∀ j, Foot o.bA o.bn j → j < w.heap.size := RB.foot_lt (HS.out.each o HOM.out).bytes
            have HNew : Hid (Rawed S w v3 w3) := Lib.hid (rawed_app (d := ⟨o.fr, o.to_, o.bA, o.bn, o.bc, false, o.bytes⟩) HOwn.out h8 HOk.out HF.out hfr3 ⟨HO.out.bytes.frn hfr3, HO.out.cap, HO.out.len, HOF.out⟩ (fun j hj h => by have h1 := (HOwn.out.lt j h).1; have h2 := hlo j hj; omega) o3 f3 at3)
            clear hx hx3 hfr3 o3 f3 at3 hlo
            go_wp2_with (at_builtin; refine wpList_app rfl _ _ _ rfl rfl rfl r3 ?_)
            go_round
            case rel => exact ⟨k + 1, by omega, by go_num, HNew.out⟩
            case measure => simp [intOf]; omega
          · have q2 : (o.kind == 2) = false := by simpa using h2
            have hfr := hx
            have HNew : Hid (Rawed S w (.slice A1 ds.length c1) X) := Lib.hid ⟨ds, own_fr HOwn.out hfr fun _ _ h => h, by omega, fun d hd => ⟨(HOk.out d hd).1.frn hfr, (HOk.out d hd).2⟩, HF.out.trans' hfr⟩
            clear h2 hfr
            go_wp2
            go_round
            case rel => exact ⟨k + 1, by omega, by go_num, HNew.out⟩
            case measure => simp [intOf]; omega
      · have d8 : decide ((ds.length : Int) < 80) = false := by simp; omega
        have dn : decide ((k : Int) < (n : Int)) = true := by simp; omega
        go_wp2
        go_ret
        exact ⟨A1, ds.length, c1, ds, rfl, HR1.out.1, h80, rfl, HR1.out.2.1, HR1.out.2.2, fun d hd => (HOk.out d hd).1, HF.out⟩
    · have hkn : k = n := by omega
      subst hkn
      have d1 : decide ((k : Int) < (k : Int)) = false := by simp
      go_wp2
      go_ret
      exact ⟨A1, ds.length, c1, ds, rfl, HR1.out.1, h80, rfl, HR1.out.2.1, HR1.out.2.2, fun d hd => (HOk.out d hd).1, HF.out⟩
end Go.Proofs.YtodkhoclbhdihaaGreatDoor

/-
  Contract of texts.
-/
namespace Go.Proofs.YtodkhoclbhdihaaGreatDoor
open Go.RowKit

def l3 (e : GElem) : Value := .agg #[.int .u8 (e.ch.toNat : Int), .int .i64 e.client, .int .i64 e.seq]
theorem run_eq_elem (w : World) (d : Nat) (a b : GElem) : (Op.equalIn (d + 2) ET (l3 a) (l3 b)).run Tryz.prog w = .ok (decide (a = b)) w := by
  obtain ⟨a3, a4, a5⟩ := a
  obtain ⟨b3, b4, b5⟩ := b
  unfold l3
  rw [run_equalIn_struct w (d + 1) ET _ _ (by kernel_rfl) (by kernel_rfl)]
  simp [go_sem, Tryz.underlying84, Tryz.underlying3, Tryz.underlying5]
  by_cases h3 : a3 = b3
  · by_cases h4 : a4 = b4
    · by_cases h5 : a5 = b5 <;> simp [h3, h4, h5]
    · simp [h3, h4]
  · have h3' : ¬ ((a3.toNat : Int) = (b3.toNat : Int)) := fun h => h3 (u8_eq.1 h)
    simp [h3, h3']
theorem neq_l3 (a b : GElem) (w : World) : (binOp .neq ET (l3 a) (l3 b)).run Tryz.prog w = .ok (.bool (!decide (a = b))) w := by
  have h2 : (Op.equal ET (l3 a) (l3 b)).run Tryz.prog w = .ok (decide (a = b)) w := run_eq_elem w 9998 a b
  unfold l3 at h2 ⊢
  simp [binOp, h2]

set_option maxHeartbeats 2000000 in
theorem texts_any (A B : Option Addr) (n m c d : Nat) (xs ys : List GElem) (w : World) (ha : Reads w 3 A n (els xs)) (hb : Reads w 3 B m (els ys)) (hn : n ≤ 1000000) (hm : m ≤ 1000000) :
    Calls Tryz.prog 19 #[.slice A n c, .slice B m d] w fun e w' => e = .returned (.bool (decide (xs = ys))) ∧ Fr None' w w' := by
  have hl1 : xs.length = n := by have := ha.1; rw [els_len] at this; omega
  have hl2 : ys.length = m := by have := hb.1; rw [els_len] at this; omega
  by_cases hnm : n = m
  · subst hnm
    have q0 : ((n : Int) != (n : Int)) = false := by simp
    go_enter Tryz.func19, Tryz.ntmps19
    go_wp2
    go_loopw [5] (fun i wr => ∃ k : Nat, k ≤ n ∧ i = .int .i64 (k : Int) ∧ xs.take k = ys.take k ∧ Fr None' w wr) (fun i _ => n - (intOf i).toNat)
    case atStart => exact ⟨0, Nat.zero_le _, rfl, rfl, Fr.refl _ _⟩
    case round =>
      obtain ⟨k, hk, rfl, hpre, hf⟩ := hrel
      by_cases hlt : k < n
      · obtain ⟨b1, o1, x1, rfl, hb1, hx1, c10, c11, c12⟩ := el_at (ha.frn hf) hlt
        obtain ⟨b2, o2, x2, rfl, hb2, hx2, c20, c21, c22⟩ := el_at (hb.frn hf) hlt
        have hneq := fun w => neq_l3 x1 x2 w
        unfold l3 at hneq
        have HF := Lib.hid hf
        have HX1 := Lib.hid hx1
        have HX2 := Lib.hid hx2
        have HP := Lib.hid hpre
        clear hf hx1 hx2 hpre
        by_cases hq : x1 = x2
        · rw [decide_eq_true hq, Bool.not_true] at hneq
          have HQ := Lib.hid hq
          clear hq
          go_wp2
          go_quiet (fail)
          go_wp2
          go_round
          case rel => exact ⟨k + 1, by omega, by go_num, by rw [List.take_add_one, List.take_add_one, HX1.out, HX2.out, HP.out, HQ.out], HF.out.drewN _⟩
          case measure => simp [intOf]; omega
        · rw [decide_eq_false hq, Bool.not_false] at hneq
          have HQ := Lib.hid hq
          clear hq
          go_wp2
          go_quiet (fail)
          go_wp2
          go_ret
          refine ⟨retB ?_, HF.out.drewN _⟩
          symm
          rw [decide_eq_false]
          intro e
          have := HX1.out
          rw [e, HX2.out] at this
          exact HQ.out (Option.some.inj this).symm
      · have HF := Lib.hid hf
        have HP := Lib.hid hpre
        clear hf hpre
        go_wp2
        go_ret
        refine ⟨retB ?_, HF.out⟩
        symm
        rw [decide_eq_true]
        have := HP.out
        rwa [List.take_of_length_le (by omega), List.take_of_length_le (by omega)] at this
  · have q0 : ((n : Int) != (m : Int)) = true := by simp; omega
    go_enter Tryz.func19, Tryz.ntmps19
    go_wp2
    go_ret
    exact ⟨retB (by symm; rw [decide_eq_false]; intro e; subst e; omega), Fr.refl _ _⟩
end Go.Proofs.YtodkhoclbhdihaaGreatDoor

/-
  Contract of equal, of two taps that look up the same: true.
-/
namespace Go.Proofs.YtodkhoclbhdihaaGreatDoor
open Go.RowKit

theorem own_read (w : World) {base : Nat} {e : TypeId} {size n : Nat} {v : Value} {xs : List Value} (h : w.ownsRow base e size v n xs) : ∃ A c, v = .slice A n c ∧ n ≤ c ∧ Reads w size A n xs := by
  obtain ⟨A, c, h1, h2, h3, _⟩ := own_reads h
  exact ⟨A, c, h1, h2, h3⟩
theorem texts_same (A B : Option Addr) (n m c d : Nat) (xs : List GElem) (w : World) (ha : Reads w 3 A n (els xs)) (hb : Reads w 3 B m (els xs)) (hn : n ≤ 1000000) (hm : m ≤ 1000000) :
    Calls Tryz.prog 19 #[.slice A n c, .slice B m d] w fun e w' => e = .returned (.bool true) ∧ Fr None' w w' :=
  (texts_any A B n m c d xs xs w ha hb hn hm).mono fun e w' h => ⟨h.1.trans (by simp), h.2⟩
def GotO (w : World) (L : List GOp) (ev : Ending) (w' : World) : Prop := ∃ A cc, ev = .returned (.slice A L.length cc) ∧ L.length ≤ cc ∧ Reads w' 5 A L.length (ops L) ∧ Fr None' w w'
def GotT (w : World) (L : List GElem) (ev : Ending) (w' : World) : Prop := ∃ A cc, ev = .returned (.slice A L.length cc) ∧ L.length ≤ cc ∧ Reads w' 3 A L.length (els L) ∧ Fr None' w w'
theorem records_got {L : List GOp} (a r v e : Nat) (T : GTap) (w : World) (hT : TapAt w a r v e T) (hlen : T.records.length ≤ 100000) (hL : (standF T.records).1 = L) :
    Calls Tryz.prog 16 #[.pointer (some ⟨a, 0, none⟩)] w fun ev w' => GotO w L ev w' := by
  refine (records_any a r v e T w hT hlen).mono fun ev w' ⟨vl, h1, h2, h3⟩ => ?_
  rw [hL] at h2
  obtain ⟨A, c, rfl, hc, hr⟩ := own_read w' h2
  exact ⟨A, c, h1, hc, hr, h3⟩
theorem doc_got {L : List GElem} (a r v e : Nat) (T : GTap) (w : World) (hT : TapAt w a r v e T) (hlen : T.records.length ≤ 100000) (hL : (standF T.records).2 = L) :
    Calls Tryz.prog 20 #[.pointer (some ⟨a, 0, none⟩)] w fun ev w' => GotT w L ev w' := by
  refine (doc_any a r v e T w hT hlen).mono fun ev w' ⟨vl, h1, h2, h3⟩ => ?_
  rw [hL] at h2
  obtain ⟨A, c, rfl, hc, hr⟩ := own_read w' h2
  exact ⟨A, c, h1, hc, hr, h3⟩
/-- How long what stands is at most. -/
theorem standGo_len (recs : List (Int × GOp)) : ∀ (f : Nat) (rev : Int) (seqs : List (Int × Int)) (l : List GOp) (text : List GElem), (standGo recs f rev seqs l text).1.length ≤ l.length + f ∧ (standGo recs f rev seqs l text).2.length ≤ text.length + f
  | 0, _, _, l, text => ⟨Nat.le_refl _, Nat.le_refl _⟩
  | f + 1, rev, seqs, l, text => by
    unfold standGo
    cases get recs rev with
    | none => exact ⟨by dsimp only; omega, by dsimp only; omega⟩
    | some o =>
      dsimp only
      split
      · cases ha : applyF text o with
        | error _ => exact ⟨by dsimp only; omega, by dsimp only; omega⟩
        | ok next =>
          dsimp only
          obtain ⟨h1, h2⟩ := standGo_len recs f (rev + 1) (put seqs o.client ((get seqs o.client).getD 0 + 1)) (l ++ [o]) next
          have h3 : next.length ≤ text.length + 1 := by
            unfold applyF at ha
            split at ha
            · cases ha
              unfold doneF
              split
              · simp only [List.length_append, List.length_take, List.length_drop, List.length_cons, List.length_nil]; omega
              · split
                · simp only [List.length_append, List.length_take, List.length_drop]; omega
                · omega
            · cases ha
          rw [List.length_append, List.length_cons, List.length_nil] at h1
          exact ⟨by omega, by omega⟩
      · exact ⟨by dsimp only; omega, by dsimp only; omega⟩
theorem standF_len (recs : List (Int × GOp)) : (standF recs).1.length ≤ recs.length + 1 ∧ (standF recs).2.length ≤ recs.length + 1 := by
  have := standGo_len recs (recs.length + 1) 1 [] [] []
  unfold standF
  simp only [List.length_nil] at this
  omega

set_option maxHeartbeats 16000000 in
theorem equal_same (a r v e a' r' v' e' : Nat) (S T : GTap) (j : Nat) (n : Int) (w : World) (hS : TapAt w a r v e S) (hT : TapAt w a' r' v' e' T) (hal : Alike S T) (iS : InvB S j) (iT : InvB T j) (hj : j ≤ 100000) (h1 : 1 ≤ n) (h64 : n ≤ 64) :
    Calls Tryz.prog 28 #[.pointer (some ⟨a, 0, none⟩), .pointer (some ⟨a', 0, none⟩), .int .i64 n] w fun ev w' => ev = .returned (.bool true) ∧ Fr None' w w' := by
  have E1 := Lib.hid fun w (h : TapAt w a r v e S) => epoch_any a r v e S w h
  have E2 : Hid (∀ w, TapAt w a' r' v' e' T → Calls Tryz.prog 43 #[.pointer (some ⟨a', 0, none⟩)] w fun ev w' => ev = .returned (.int .i64 S.epoch) ∧ w = w') := Lib.hid fun w h => by rw [hal.epoch]; exact epoch_any a' r' v' e' T w h
  have rS : S.records.length ≤ 100000 := Nat.le_trans iS.recs hj
  have rT : T.records.length ≤ 100000 := Nat.le_trans iT.recs hj
  have dS : S.edits.length ≤ 100000 := Nat.le_trans iS.eds hj
  have dT : T.edits.length ≤ 100000 := Nat.le_trans iT.eds hj
  obtain ⟨KL, hKL⟩ : ∃ KL, KL = knownF S.records := ⟨_, rfl⟩
  have lK : KL.length ≤ 1000000 := by rw [hKL, knownF_len]; omega
  have K1 := Lib.hid fun w (h : TapAt w a r v e S) => known_got (L := KL) a r v e S w h rS hKL.symm
  have K2 := Lib.hid fun w (h : TapAt w a' r' v' e' T) => known_got (L := KL) a' r' v' e' T w h rT (by rw [hKL, alike_known hal iS.inv iT.inv])
  obtain ⟨RL, hRL⟩ : ∃ RL, RL = (standF S.records).1 := ⟨_, rfl⟩
  obtain ⟨DL, hDL⟩ : ∃ DL, DL = (standF S.records).2 := ⟨_, rfl⟩
  have hst := standF_len S.records
  have lR : RL.length ≤ 1000000 := by rw [hRL]; omega
  have lD : DL.length ≤ 1000000 := by rw [hDL]; omega
  have R1 := Lib.hid fun w (h : TapAt w a r v e S) => records_got (L := RL) a r v e S w h rS hRL.symm
  have R2 := Lib.hid fun w (h : TapAt w a' r' v' e' T) => records_got (L := RL) a' r' v' e' T w h rT (by rw [hRL, alike_stand hal])
  have D1 := Lib.hid fun w (h : TapAt w a r v e S) => doc_got (L := DL) a r v e S w h rS hDL.symm
  have D2 := Lib.hid fun w (h : TapAt w a' r' v' e' T) => doc_got (L := DL) a' r' v' e' T w h rT (by rw [hDL, alike_stand hal])
  have hcl : ∀ c, ∃ ML WL : List GEdit, ML.length ≤ 1000000 ∧ WL.length ≤ 1000000 ∧
      (∀ w, TapAt w a r v e S → Calls Tryz.prog 34 #[.pointer (some ⟨a, 0, none⟩), .int .i64 c] w fun ev w' => GotE w ML ev w') ∧
      (∀ w, TapAt w a' r' v' e' T → Calls Tryz.prog 34 #[.pointer (some ⟨a', 0, none⟩), .int .i64 c] w fun ev w' => GotE w ML ev w') ∧
      (∀ w, TapAt w a r v e S → Calls Tryz.prog 32 #[.pointer (some ⟨a, 0, none⟩), .int .i64 c] w fun ev w' => GotE w WL ev w') ∧
      (∀ w, TapAt w a' r' v' e' T → Calls Tryz.prog 32 #[.pointer (some ⟨a', 0, none⟩), .int .i64 c] w fun ev w' => GotE w WL ev w') := fun c => by
    have srt : ∀ tst : Int × Int → Bool, ∃ L : List GEdit, L.Perm (sel c tst S.edits) ∧ L.Pairwise (fun a b => a.op.seq ≤ b.op.seq) := fun tst =>
      ⟨(sel c tst S.edits).mergeSort fun x y => decide (x.op.seq ≤ y.op.seq), List.mergeSort_perm _ _, by
        have := List.pairwise_mergeSort (le := fun x y : GEdit => decide (x.op.seq ≤ y.op.seq)) (by intro a b c h1 h2; simp at *; omega) (by intro a b; simp; omega) (sel c tst S.edits)
        exact this.imp fun h => by simpa using h⟩
    obtain ⟨ML, m1, m2⟩ := srt fun _ => true
    obtain ⟨WL, w1, w2⟩ := srt (notYet S)
    refine ⟨ML, WL, ?_, ?_, fun w h => ?_, fun w h => ?_, fun w h => ?_, fun w h => ?_⟩
    · have := m1.length_eq
      have := sel_len c (fun _ => true) S.edits
      omega
    · have := w1.length_eq
      have := sel_len c (notYet S) S.edits
      omega
    · exact made_got a r v e S c w h dS iS.sq fun M hp hs => alike_sorted (Alike.refl S) iS.inv iS.inv c (fun _ => true) hp m1 hs m2
    · exact made_got a' r' v' e' T c w h dT iT.sq fun M hp hs => (alike_sorted hal iS.inv iT.inv c (fun _ => true) m1 hp m2 hs).symm
    · exact wait_got a r v e S c w h dS iS.sq fun M hp hs => alike_sorted (Alike.refl S) iS.inv iS.inv c (notYet S) hp w1 hs w2
    · exact wait_got a' r' v' e' T c w h dT iT.sq fun M hp hs => (alike_sorted hal iS.inv iT.inv c (notYet S) w1 (by rw [alike_notYet hal]; exact hp) w2 hs).symm
  have HCL := Lib.hid hcl
  have HLn := Lib.hid (And.intro lK (And.intro lR lD))
  have HS := Lib.hid hS
  have HT := Lib.hid hT
  obtain ⟨EP, hEP⟩ : ∃ EP, EP = S.epoch := ⟨_, rfl⟩
  rw [← hEP] at E1 E2
  clear hcl hS hT hal iS iT hj rS rT dS dT hKL hRL hDL hst lK lR lD hEP
  go_enter Tryz.func28, Tryz.ntmps28
  go_wp2_with fail
  refine (E1.out _ HS.out).mono ?_
  rintro ev w1 ⟨rfl, rfl⟩
  dsimp only
  go_wp2_with fail
  refine (E2.out _ HT.out).mono ?_
  rintro ev w1 ⟨rfl, rfl⟩
  dsimp only
  have q0 : (EP != EP) = false := by simp
  have HF0 : Hid (Fr None' w w) := Lib.hid (Fr.refl _ _)
  go_wp2_with fail
  refine (K1.out _ (HS.out.frn HF0.out)).mono ?_
  rintro ev wa ⟨A1, k1, rfl, hk1, hr1, hf1⟩
  dsimp only
  have HFa := Lib.hid (HF0.out.trans' hf1)
  have RA := Lib.hid hr1
  clear hk1 hr1 hf1
  go_wp2_with fail
  refine (K2.out _ (HT.out.frn HFa.out)).mono ?_
  rintro ev wb ⟨A2, k2, rfl, hk2, hr2, hf2⟩
  dsimp only
  have RB := Lib.hid (RA.out.frn hf2)
  have RC := Lib.hid hr2
  have HFb := Lib.hid (HFa.out.trans' hf2)
  clear hk2 hr2 hf2 RA HFa
  go_wp2_with fail
  refine (ints_same _ _ _ _ _ _ _ _ RB.out RC.out HLn.out.1 HLn.out.1).mono ?_
  rintro ev wc ⟨rfl, hf3⟩
  dsimp only
  have HF1 := Lib.hid (HFb.out.trans' hf3)
  clear hf3 HFb RB RC
  go_wp2_with fail
  refine (R1.out _ (HS.out.frn HF1.out)).mono ?_
  rintro ev wa ⟨A1, k1, rfl, hk1, hr1, hf1⟩
  dsimp only
  have HFa := Lib.hid (HF1.out.trans' hf1)
  have RA := Lib.hid hr1
  clear hk1 hr1 hf1
  go_wp2_with fail
  refine (R2.out _ (HT.out.frn HFa.out)).mono ?_
  rintro ev wb ⟨A2, k2, rfl, hk2, hr2, hf2⟩
  dsimp only
  have RB := Lib.hid (RA.out.frn hf2)
  have RC := Lib.hid hr2
  have HFb := Lib.hid (HFa.out.trans' hf2)
  clear hk2 hr2 hf2 RA HFa
  go_wp2_with fail
  refine (lines_same _ _ _ _ _ _ _ _ RB.out RC.out HLn.out.2.1 HLn.out.2.1).mono ?_
  rintro ev wc ⟨rfl, hf3⟩
  dsimp only
  have HF2 := Lib.hid (HFb.out.trans' hf3)
  clear hf3 HFb RB RC HF1
  go_wp2_with fail
  refine (D1.out _ (HS.out.frn HF2.out)).mono ?_
  rintro ev wa ⟨A1, k1, rfl, hk1, hr1, hf1⟩
  dsimp only
  have HFa := Lib.hid (HF2.out.trans' hf1)
  have RA := Lib.hid hr1
  clear hk1 hr1 hf1
  go_wp2_with fail
  refine (D2.out _ (HT.out.frn HFa.out)).mono ?_
  rintro ev wb ⟨A2, k2, rfl, hk2, hr2, hf2⟩
  dsimp only
  have RB := Lib.hid (RA.out.frn hf2)
  have RC := Lib.hid hr2
  have HFb := Lib.hid (HFa.out.trans' hf2)
  clear hk2 hr2 hf2 RA HFa
  go_wp2_with fail
  refine (texts_same _ _ _ _ _ _ _ _ RB.out RC.out HLn.out.2.2 HLn.out.2.2).mono ?_
  rintro ev wc ⟨rfl, hf3⟩
  dsimp only
  have HF3 := Lib.hid (HFb.out.trans' hf3)
  clear hf3 HFb RB RC HF2
  clear K1 K2 R1 R2 D1 D2 E1 E2 q0
  go_wp2
  go_loopw [7] (fun i wr => ∃ c : Int, 1 ≤ c ∧ c ≤ n + 1 ∧ i = .int .i64 c ∧ Fr None' w wr) (fun i _ => (n + 1 - intOf i).toNat)
  case atStart => exact ⟨1, by omega, by omega, rfl, HF3.out⟩
  case round =>
    clear HF3
    obtain ⟨c, hc1, hc2, rfl, hf⟩ := hrel
    have HFr := Lib.hid hf
    clear hf
    have e1 : IntKind.i64.wrap (c + 1) = c + 1 := IntWalk.i64_in _ (by omega)
    by_cases hcn : c ≤ n
    · have d1 : decide (c ≤ n) = true := by simpa using hcn
      obtain ⟨ML, WL, lM, lW, m1, m2, w1, w2⟩ := HCL.out c
      have M1 := Lib.hid m1
      have M2 := Lib.hid m2
      have W1 := Lib.hid w1
      have W2 := Lib.hid w2
      have LMW := Lib.hid (And.intro lM lW)
      clear m1 m2 w1 w2 lM lW
      go_wp2_with fail
      refine (M1.out _ (HS.out.frn HFr.out)).mono ?_
      rintro ev wa ⟨A1, k1, rfl, hk1, hr1, hf1⟩
      dsimp only
      have HFa := Lib.hid (HFr.out.trans' hf1)
      have RA := Lib.hid hr1
      clear hk1 hr1 hf1
      go_wp2_with fail
      refine (M2.out _ (HT.out.frn HFa.out)).mono ?_
      rintro ev wb ⟨A2, k2, rfl, hk2, hr2, hf2⟩
      dsimp only
      have RB := Lib.hid (RA.out.frn hf2)
      have RC := Lib.hid hr2
      have HFb := Lib.hid (HFa.out.trans' hf2)
      clear hk2 hr2 hf2 RA HFa
      go_wp2_with fail
      refine (edits_same _ _ _ _ _ _ _ _ RB.out RC.out LMW.out.1 LMW.out.1).mono ?_
      rintro ev wc ⟨rfl, hf3⟩
      dsimp only
      have HF5 := Lib.hid (HFb.out.trans' hf3)
      clear hf3 HFb RB RC HFr
      go_wp2_with fail
      refine (W1.out _ (HS.out.frn HF5.out)).mono ?_
      rintro ev wa ⟨A1, k1, rfl, hk1, hr1, hf1⟩
      dsimp only
      have HFa := Lib.hid (HF5.out.trans' hf1)
      have RA := Lib.hid hr1
      clear hk1 hr1 hf1
      go_wp2_with fail
      refine (W2.out _ (HT.out.frn HFa.out)).mono ?_
      rintro ev wb ⟨A2, k2, rfl, hk2, hr2, hf2⟩
      dsimp only
      have RB := Lib.hid (RA.out.frn hf2)
      have RC := Lib.hid hr2
      have HFb := Lib.hid (HFa.out.trans' hf2)
      clear hk2 hr2 hf2 RA HFa
      go_wp2_with fail
      refine (edits_same _ _ _ _ _ _ _ _ RB.out RC.out LMW.out.2 LMW.out.2).mono ?_
      rintro ev wc ⟨rfl, hf3⟩
      dsimp only
      have HF6 := Lib.hid (HFb.out.trans' hf3)
      clear hf3 HFb RB RC HF5
      go_wp2
      go_round
      case rel => exact ⟨c + 1, by omega, by omega, rfl, HF6.out⟩
      case measure => simp [intOf]; omega
    · have d1 : decide (c ≤ n) = false := by simpa using hcn
      go_wp2
      go_ret
      exact ⟨rfl, HFr.out⟩
end Go.Proofs.YtodkhoclbhdihaaGreatDoor

/-
  Contracts of copied and seen, of bytes of any length that can be read.
-/
namespace Go.Proofs.YtodkhoclbhdihaaGreatDoor
open Go.RowKit

set_option maxHeartbeats 2000000 in
theorem copied_big (A : Option Addr) (n c : Nat) (xs : List UInt8) (w : World) (ha : RB w A n xs) (hn : n ≤ 140737488355328) :
    Calls Tryz.prog 36 #[.slice A n c] w fun e w' => ∃ r, e = .returned r ∧ NewB w w' r xs ∧ Fr None' w w' := by
  have hl : xs.length = n := by have := ha.len1; rwa [List.length_map] at this
  have hmk := run_mk w n n rfl (by omega)
  obtain ⟨Z, hZ⟩ : ∃ Z, Z = zeros n := ⟨_, rfl⟩
  rw [← hZ] at hmk
  have H0 : Hid (Blk (w.alloc (.cells Z.toArray 5)) w.heap.size 5 ((xs.take 0).map bv ++ zeros (n - 0)).toArray ∧ Fr None' w (w.alloc (.cells Z.toArray 5))) := Lib.hid ⟨by subst hZ; simpa using Blk.new w 5 (zeros n).toArray, (Fr.refl _ _).alloc _⟩
  clear hZ
  go_enter Tryz.func36, Tryz.ntmps36
  go_wp2
  go_loopw [4] (fun i wr => ∃ k : Nat, k ≤ n ∧ i = .int .i64 (k : Int) ∧ Blk wr w.heap.size 5 ((xs.take k).map bv ++ zeros (n - k)).toArray ∧ Fr None' w wr) (fun i _ => n - (intOf i).toNat)
  case atStart => exact ⟨0, Nat.zero_le _, rfl, H0.out.1, H0.out.2⟩
  case round =>
    clear H0 hmk
    obtain ⟨k, hk, rfl, hb, hf⟩ := hrel
    by_cases hlt : k < n
    · obtain ⟨b, off, u, rfl, hbb, hx, hc⟩ := (ha.frn hf).at1 hlt
      rw [List.getElem?_map, Option.map_eq_some_iff] at hx
      obtain ⟨u', hu, rfl⟩ := hx
      have hc0 : ∃ v, wr.cell? ⟨w.heap.size, k, none⟩ = some v := by
        rw [hb.cell k]
        exact ⟨_, Array.getElem?_eq_getElem (by simp [zeros]; omega)⟩
      obtain ⟨v0, hv0⟩ := hc0
      have hfz := hb.frozen k
      have HN := Lib.hid (splice_step xs n k u' hlt hu hl)
      have HB := Lib.hid hb
      have HF := Lib.hid hf
      unfold bv at hc
      clear hb hf hu
      go_wp2
      go_round
      case rel => exact ⟨k + 1, by omega, by go_num, by have := HB.out.set_ k (bv u'); rw [HN.out] at this; exact this, HF.out.setCell (.inl (Nat.le_refl _)) _⟩
      case measure => simp [intOf]; omega
    · have HB := Lib.hid hb
      have HF := Lib.hid hf
      clear hb hf
      have hkn : k = n := by omega
      subst hkn
      go_wp2
      go_ret
      refine ⟨.slice (some ⟨w.heap.size, 0, none⟩) k k, rfl, ⟨w.heap.size, Nat.le_refl _, by rw [hl], ?_⟩, HF.out⟩
      have := HB.out
      rw [List.take_of_length_le (by omega), Nat.sub_self] at this
      simpa [zeros] using this

set_option maxHeartbeats 4000000 in
theorem seen_big (B a r v e : Nat) (T : GTap) (fr to_ : Int) (A : Option Addr) (n c : Nat) (xs : List UInt8) (sp : Bool) (w : World) (hG : Glb B w) (hB : ∀ k, Its a r v e k → B ≤ k) (hT : TapAt w a r v e T) (ha : RB w A n xs) (hn : n ≤ 140737488355328) :
    Calls Tryz.prog 27 #[.pointer (some ⟨a, 0, none⟩), dgV fr to_ (.slice A n c) sp] w fun ev w' => ev = .returned (.int .i64 (seeF T fr to_ xs).1.1) ∧ TapAt w' a r v e (seeF T fr to_ xs).2 ∧ Fr (Its a r v e) w w' := by
  have h0 : Fr None' w (w.alloc (.cells #[.int .i64 fr, .int .i64 to_, .slice A n c, .bool sp] 60)) := (Fr.refl _ _).alloc _
  have hD : Blk (w.alloc (.cells #[.int .i64 fr, .int .i64 to_, .slice A n c, .bool sp] 60)) w.heap.size 60 #[.int .i64 fr, .int .i64 to_, .slice A n c, .bool sp] := Blk.new _ _ _
  have HCp := Lib.hid (copied_big A n c xs _ (ha.frn h0) hn)
  have HG := Lib.hid hG
  have HT := Lib.hid hT
  have HD := Lib.hid hD
  have H0 := Lib.hid h0
  have HIlt := Lib.hid hT.lt
  clear hG hT hD h0 ha
  unfold dgV
  go_enter Tryz.func27, Tryz.ntmps27
  go_wp2_with fail
  refine HCp.out.mono ?_
  rintro e1 w1 ⟨r1, rfl, ⟨g, hg, rfl, hb⟩, hf1⟩
  dsimp only
  have hD1 := HD.out.fr hf1 fun h => h
  have hgw : w.heap.size < g := by have := HD.out.lt; omega
  obtain ⟨w2, hw2⟩ : ∃ w2, w2 = w1.setCell ⟨w.heap.size, 2, none⟩ (.slice (some ⟨g, 0, none⟩) xs.length xs.length) := ⟨_, rfl⟩
  have hD2 : Blk w2 w.heap.size 60 #[.int .i64 fr, .int .i64 to_, .slice (some ⟨g, 0, none⟩) xs.length xs.length, .bool sp] := by
    rw [hw2]
    have := hD1.set_ 2 (.slice (some ⟨g, 0, none⟩) xs.length xs.length)
    simpa using this
  have hf2 : Fr (Only w.heap.size) w1 w2 := by rw [hw2]; exact (Fr.refl _ _).setCell (.inr (show Only w.heap.size w.heap.size from rfl)) _
  have hb2 := hb.fr hf2 (fun h => by unfold Only at h; omega)
  have hF2 : Fr None' w w2 := (H0.out.trans' hf1).trans hf2 fun i hi hs => by unfold Only at hs; omega
  have hT2 := HT.out.frn hF2
  have hG2 := HG.out.fr hF2 fun _ h => h.elim
  have hRB2 : RB w2 (some ⟨g, 0, none⟩) xs.length xs := hb2.reads0 (by simp)
  have hS := see_any B a r v e T fr to_ (some ⟨g, 0, none⟩) xs.length xs.length xs sp w2 hG2 hT2 hRB2 (Nat.le_refl _)
  unfold dgV at hS
  have HS := Lib.hid hS
  have HW2 := Lib.hid hw2
  have HF2 := Lib.hid hF2
  have HG2 := Lib.hid hG2
  have y1 := fun i => Blk.cell hD1 i
  have y2 := fun i => Blk.frozen hD1 i
  have y3 : ∀ i, w2.cell? ⟨w.heap.size, i, none⟩ = (#[.int .i64 fr, .int .i64 to_, .slice (some ⟨g, 0, none⟩) xs.length xs.length, .bool sp] : Array Value)[i]? := fun i => Blk.cell hD2 i
  clear hD1 hw2 hD2 hf2 hb2 hF2 hT2 hG2 hRB2 hS hb hf1 hgw HCp hg
  go_wp2_with fail
  rw [← HW2.out]
  refine HS.out.mono ?_
  rintro e2 w3 ⟨X, rfl, hX, hT3, hf3⟩
  dsimp only
  have hC := code_is w3 X _ (HG2.out.fr hf3 hB).err hX
  obtain ⟨cd, hcd⟩ : ∃ cd, cd = (seeF T fr to_ xs).1.1 := ⟨_, rfl⟩
  rw [← hcd] at hC
  have HC := Lib.hid hC
  have HCD := Lib.hid hcd
  clear hC hcd
  have HT3 := Lib.hid hT3
  have HF3 := Lib.hid ((HF2.out.none).trans' hf3)
  clear hX hT3 hf3 y1 y2 y3
  go_wp2_with (go_at_call 41; refine HC.out.mono ?_; rintro e3 w4 ⟨rfl, hf4⟩)
  go_ret
  exact ⟨by rw [← HCD.out]; rfl, HT3.out.frn hf4, HF3.out.trans' hf4.none⟩
end Go.Proofs.YtodkhoclbhdihaaGreatDoor

/-
  TapAgain, walked: every script gives true.
-/
namespace Go.Proofs.YtodkhoclbhdihaaGreatDoor
open Go.RowKit

theorem dgs_drop (d : List GDg) (k : Nat) : (dgs d).drop (k * 4) = dgs (d.drop k) := by
  unfold dgs
  induction d generalizing k with
  | nil => simp
  | cons a d ih =>
    cases k with
    | zero => simp
    | succ k =>
      rw [List.flatMap_cons, List.drop_succ_cons, show (k + 1) * 4 = (dgCells a).length + k * 4 by simp [dgCells]; omega, List.drop_length_add_append, ih]
theorem dg_at {w : World} {A : Option Addr} {n k : Nat} {l : List GDg} (h : Reads w 4 A n (dgs l)) (hk : k < n) : ∃ b off o, A = some ⟨b, off, none⟩ ∧ b < w.heap.size ∧ l[k]? = some o ∧
    w.cell? ⟨b, off + k * 4, none⟩ = some (.int .i64 o.fr) ∧ w.cell? ⟨b, off + k * 4 + 1, none⟩ = some (.int .i64 o.to_) ∧ w.cell? ⟨b, off + k * 4 + 2, none⟩ = some (.slice o.A o.n o.c) ∧ w.cell? ⟨b, off + k * 4 + 3, none⟩ = some (.bool o.sp) := by
  obtain ⟨b, off, rfl, hb, hc⟩ := h.2 (by omega)
  have hl : l.length = n := by have := h.1; rw [dgs_len] at this; omega
  have hg : l[k]? = some l[k] := List.getElem?_eq_getElem (by omega)
  have hd : l.drop k = l[k] :: l.drop (k + 1) := List.drop_eq_getElem_cons (by omega)
  have hcell : ∀ j, j < 4 → w.cell? ⟨b, off + k * 4 + j, none⟩ = (dgCells l[k])[j]? := fun j hj => by
    have hlen : (dgCells l[k]).length = 4 := rfl
    have e : (dgs l)[k * 4 + j]? = (dgCells l[k])[j]? := by
      rw [← List.getElem?_drop, dgs_drop, hd]
      show ((dgCells l[k]) ++ dgs (l.drop (k + 1)))[j]? = _
      rw [List.getElem?_append_left (by omega)]
    have hx : (dgCells l[k])[j]? = some (dgCells l[k])[j] := List.getElem?_eq_getElem (by omega)
    rw [hx] at e ⊢
    have := hc _ _ e
    rwa [← Nat.add_assoc] at this
  exact ⟨b, off, l[k], rfl, hb, hg, hcell 0 (by omega), hcell 1 (by omega), hcell 2 (by omega), hcell 3 (by omega)⟩
/-- The blocks of two taps. -/
def Both (a r v e a' r' v' e' : Nat) : Nat → Prop := fun k => Its a r v e k ∨ Its a' r' v' e' k

set_option maxRecDepth 100000 in
set_option maxHeartbeats 32000000 in
theorem again_any (B : Nat) (n : Int) (A : Option Addr) (k c : Nat) (scr : List GScr) (w : World) (hG : Glb B w) (hs : ScriptAt w A k scr) (hk : k ≤ 140737488355328) :
    Calls Tryz.prog 6 #[.int .i64 n, .slice A k c] w fun ev w' => ev = .returned (.bool true) ∧ Fr None' w w' := by
  have Hi := Lib.hid into_gen
  have HG := Lib.hid hG
  have HS := Lib.hid hs
  obtain ⟨N, hN⟩ : ∃ N, N = 1 + n % 64 := ⟨_, rfl⟩
  have hN1 : 1 ≤ N ∧ N ≤ 64 := by omega
  have eN : IntKind.i64.wrap (1 + n % 64) = N := by rw [hN]; exact IntWalk.i64_in _ (by omega)
  have HN := Lib.hid hN1
  clear hG hs hN hN1
  go_enter Tryz.func6, Tryz.ntmps6
  go_wp2_with (go_at_call 12; refine (Hi.out _ _ (by omega) (by omega) _).mono ?_; rintro e0 w0 ⟨rfl, rfl⟩)
  refine (begun_any B N _ HG.out HN.out.1 HN.out.2).mono ?_
  rintro ev w1 ⟨a, r, v, e, rfl, hT, hlo, hf⟩
  dsimp only
  have HT1 := Lib.hid hT
  have HLo := Lib.hid hlo
  have HF1 := Lib.hid hf
  clear hT hlo hf eN
  go_wp2_with fail
  refine (begun_any B N _ (HG.out.fr HF1.out fun _ h => h.elim) HN.out.1 HN.out.2).mono ?_
  rintro ev w2 ⟨a', r', v', e', rfl, hT, hlo, hf⟩
  dsimp only
  have HT2 := Lib.hid (HT1.out.frn hf)
  have HU2 := Lib.hid hT
  have HLp := Lib.hid fun j hj => Nat.le_trans HF1.out.size (hlo j hj)
  have HDj : Hid (∀ j, Its a r v e j → ¬ Its a' r' v' e' j) := Lib.hid fun j h h' => by have h1 := HT1.out.lt j h; have h2 := hlo j h'; omega
  have HF2 := Lib.hid (HF1.out.trans' hf)
  clear hT hlo hf HT1 HF1
  have hsc := HS.out.frn HF2.out
  have hft : ∀ o ∈ scr, ∀ j, Foot o.bA o.bn j → ¬ Both a r v e a' r' v' e' j := fun o ho j hj h => by
    have h1 := RB.foot_lt (HS.out.each o ho).bytes j hj
    rcases h with h | h
    · have := HLo.out j h; omega
    · have := HLp.out j h; omega
  have hbl : ∀ j, Both a r v e a' r' v' e' j → j < w2.heap.size := fun j h => by
    rcases h with h | h
    · exact HT2.out.lt j h
    · exact HU2.out.lt j h
  have HBl := Lib.hid hbl
  have HRw := Lib.hid (raw_any B (Both a r v e a' r' v' e') A k c scr w2 (HG.out.fr HF2.out fun _ h => h.elim) hsc hk hft hbl)
  clear hsc hft hbl hk
  go_wp2_with fail
  refine HRw.out.mono ?_
  rintro ev w3 ⟨A1, k1, c1, ds, rfl, hc1, h80, hdl, hrd, hft, hok, hf⟩
  dsimp only
  have HT3 := Lib.hid (HT2.out.frn hf)
  have HU3 := Lib.hid (HU2.out.frn hf)
  have HF3 := Lib.hid (HF2.out.trans' hf)
  have HRd := Lib.hid hrd
  have HFt : Hid (∀ j, Foot A1 k1 j → ¬ Both a r v e a' r' v' e' j) := Lib.hid fun j hj h => by have h1 := hft j hj; have h2 := HBl.out j h; omega
  have HOk := Lib.hid hok
  have HSB : Hid (∀ j, Both a r v e a' r' v' e' j → w.heap.size ≤ j) := Lib.hid fun j h => h.elim (HLo.out j) (HLp.out j)
  have HG3 := Lib.hid (HG.out.fr HF3.out fun _ h => h.elim)
  have HDl := Lib.hid hdl
  clear hdl hrd hft hok hf HT2 HU2 HF2 HRw hc1
  go_wp2_with fail
  go_loopw [8] (fun i wr => ∃ j : Nat, j ≤ k1 ∧ i = .int .i64 (j : Int) ∧ ∃ T, Hid (TapAt wr a r v e T) ∧ Hid (TapAt wr a' r' v' e' T) ∧ Hid (InvB T (j + 1)) ∧ Hid (Fr (Both a r v e a' r' v' e') w3 wr)) (fun i _ => k1 - (intOf i).toNat)
  case atStart => exact ⟨0, Nat.zero_le _, rfl, T1 N, HT3, HU3, Lib.hid (invB_T1 N), Lib.hid (Fr.refl _ _)⟩
  case round =>
    clear HT3 HU3
    obtain ⟨j, hj, rfl, T, HT, HU, HIv, HF⟩ := hrel
    have HB3 : Hid (∀ i, Both a r v e a' r' v' e' i → B ≤ i) := Lib.hid fun i h => Nat.le_trans HG.out.le (HSB.out i h)
    by_cases hlt : j < k1
    · have hdl : decide ((j : Int) < (k1 : Int)) = true := by simp; omega
      have hrd := HRd.out.fr HF.out HFt.out
      obtain ⟨b, off, d, rfl, hb, hd, y0, y1, y2, y3⟩ := dg_at hrd hlt
      have hdm : d ∈ ds := List.mem_of_getElem? hd
      have HD := Lib.hid ((HOk.out d hdm).fr HF.out)
      obtain ⟨sf, hsf⟩ : ∃ sf, sf = seeF T d.fr d.to_ d.xs := ⟨_, rfl⟩
      have hag : sf.1.1 = 0 → seeF sf.2 d.fr d.to_ d.xs = ((0, 0), sf.2) := fun h => by rw [hsf] at h ⊢; exact see_again T d.fr d.to_ d.xs h
      have hrf : sf.1.1 ≠ 0 → sf.2 = T := fun h => by rw [hsf] at h ⊢; exact see_refused T d.fr d.to_ d.xs h
      have hiv : InvB sf.2 (j + 1 + 1) := by rw [hsf]; exact invB_see HIv.out d.fr d.to_ d.xs
      have S1 : Hid (∀ wx, Fr (Both a r v e a' r' v' e') wr wx → TapAt wx a r v e T → Calls Tryz.prog 27 #[.pointer (some ⟨a, 0, none⟩), dgV d.fr d.to_ (.slice d.A d.n d.c) d.sp] wx fun ev w' => ev = .returned (.int .i64 sf.1.1) ∧ TapAt w' a r v e sf.2 ∧ Fr (Its a r v e) wx w') := Lib.hid fun wx hx hT => by
        rw [hsf]
        exact seen_big B a r v e T d.fr d.to_ d.A d.n d.c d.xs d.sp wx ((HG3.out.fr HF.out HB3.out).fr hx HB3.out) (fun i h => HB3.out i (.inl h)) hT (HD.out.fr hx).bytes HD.out.len
      have S2 : Hid (∀ wx, Fr (Both a r v e a' r' v' e') wr wx → TapAt wx a' r' v' e' T → Calls Tryz.prog 27 #[.pointer (some ⟨a', 0, none⟩), dgV d.fr d.to_ (.slice d.A d.n d.c) d.sp] wx fun ev w' => ev = .returned (.int .i64 sf.1.1) ∧ TapAt w' a' r' v' e' sf.2 ∧ Fr (Its a' r' v' e') wx w') := Lib.hid fun wx hx hT => by
        rw [hsf]
        exact seen_big B a' r' v' e' T d.fr d.to_ d.A d.n d.c d.xs d.sp wx ((HG3.out.fr HF.out HB3.out).fr hx HB3.out) (fun i h => HB3.out i (.inr h)) hT (HD.out.fr hx).bytes HD.out.len
      have S3 : Hid (sf.1.1 = 0 → ∀ wx, Fr (Both a r v e a' r' v' e') wr wx → TapAt wx a' r' v' e' sf.2 → Calls Tryz.prog 27 #[.pointer (some ⟨a', 0, none⟩), dgV d.fr d.to_ (.slice d.A d.n d.c) d.sp] wx fun ev w' => ev = .returned (.int .i64 0) ∧ TapAt w' a' r' v' e' sf.2 ∧ Fr (Its a' r' v' e') wx w') := Lib.hid fun h0 wx hx hT => by
        have := seen_big B a' r' v' e' sf.2 d.fr d.to_ d.A d.n d.c d.xs d.sp wx ((HG3.out.fr HF.out HB3.out).fr hx HB3.out) (fun i h => HB3.out i (.inr h)) hT (HD.out.fr hx).bytes HD.out.len
        rw [hag h0] at this
        exact this
      have HRf := Lib.hid hrf
      have HIv2 := Lib.hid hiv
      have HLst : Hid (∀ wx, Fr (Both a r v e a' r' v' e') wr wx → Reads wx 4 (some ⟨b, off, none⟩) k1 (dgs ds)) := Lib.hid fun wx hx => hrd.fr hx HFt.out
      have HDx := Lib.hid hd
      clear hsf hag hrf hiv hrd hb hd hdm
      unfold dgV at S1 S2 S3
      obtain ⟨⟨cd, pl⟩, T2⟩ := sf
      dsimp only at S1 S2 S3 HRf HIv2
      go_upto_region 10 with fail
      go_cut [54] (fun s wx => s = .bool false ∧ Hid (TapAt wx a r v e T2) ∧ Hid (TapAt wx a' r' v' e' T2) ∧ Hid (Fr (Both a r v e a' r' v' e') w3 wx))
      case first =>
        go_wp2_with fail
        refine (S1.out _ (Fr.refl _ _) HT.out).mono ?_
        rintro ev wa ⟨rfl, hT, hf⟩
        dsimp only
        have hfb : Fr (Both a r v e a' r' v' e') wr wa := hf.weaken fun _ h => .inl h
        have HFb := Lib.hid hfb
        have HTa := Lib.hid hT
        have HUa := Lib.hid (HU.out.fr hf fun i h h' => HDj.out i h' h)
        clear hfb hT hf y0 y1 y2 y3
        by_cases h0 : cd = 0
        · subst h0
          obtain ⟨_, _, d', hA', _, hd', z0, z1, z2, z3⟩ := dg_at (HLst.out _ HFb.out) hlt
          cases hA'
          obtain rfl : d' = d := Option.some.inj (hd'.symm.trans HDx.out)
          clear hd'
          go_wp2_with fail
          refine (S2.out _ HFb.out HUa.out).mono ?_
          rintro ev wb ⟨rfl, hU, hf⟩
          dsimp only
          have hfc : Fr (Both a r v e a' r' v' e') wr wb := HFb.out.trans' (hf.weaken fun _ h => .inr h)
          have HFc := Lib.hid hfc
          have HTb := Lib.hid (HTa.out.fr hf fun i h => HDj.out i h)
          have HUb := Lib.hid hU
          clear hfc hU hf z0 z1 z2 z3 HFb HTa HUa
          obtain ⟨_, _, d2, hA', _, hd2, z0, z1, z2, z3⟩ := dg_at (HLst.out _ HFc.out) hlt
          cases hA'
          obtain rfl := Option.some.inj (hd2.symm.trans HDx.out)
          clear hd2
          go_wp2_with fail
          refine (S3.out (by first | rfl | trivial) _ HFc.out HUb.out).mono ?_
          rintro ev wc ⟨rfl, hU, hf⟩
          dsimp only
          have HFd := Lib.hid (HF.out.trans' (HFc.out.trans' (hf.weaken fun _ h => .inr h)))
          have HTc := Lib.hid (HTb.out.fr hf fun i h => HDj.out i h)
          have HUc := Lib.hid hU
          clear hU hf z0 z1 z2 z3 HFc HTb HUb
          go_wp2_with fail
          go_meet
          exact ⟨by first | rfl | trivial, HTc, HUc, HFd⟩
        · have q0 : (cd == 0) = false := by simpa using h0
          have HFd := Lib.hid (HF.out.trans' HFb.out)
          have HUd : Hid (TapAt wa a' r' v' e' T2) := Lib.hid (by rw [HRf.out h0]; exact HUa.out)
          clear h0
          go_wp2_with fail
          go_meet
          exact ⟨by first | rfl | trivial, HTa, HUd, HFd⟩
      case rest =>
        clear HT HU HF S1 S2 S3 HLst HD y0 y1 y2 y3
        obtain ⟨rfl, HT, HU, HF⟩ := hcut
        have HE := Lib.hid (equal_same a r v e a' r' v' e' T2 T2 (j + 1 + 1) N wc HT.out HU.out (Alike.refl T2) HIv2.out HIv2.out (by omega) HN.out.1 HN.out.2)
        go_upto_region 12 with fail
        go_cut [64] (fun s wx => s = .bool false ∧ Hid (TapAt wx a r v e T2) ∧ Hid (TapAt wx a' r' v' e' T2) ∧ Hid (Fr (Both a r v e a' r' v' e') w3 wx))
        case first =>
          go_wp2_with fail
          case isTrue =>
            refine HE.out.mono ?_
            rintro ev wd ⟨rfl, hf⟩
            dsimp only
            have HTd := Lib.hid (HT.out.frn hf)
            have HUd := Lib.hid (HU.out.frn hf)
            have HFd := Lib.hid (HF.out.trans' hf.none)
            clear hf
            go_wp2_with fail
            go_meet
            exact ⟨by first | rfl | trivial, HTd, HUd, HFd⟩
          · go_meet
            exact ⟨by first | rfl | trivial, HT, HU, HF⟩
        case rest =>
          clear HT HU HF HE
          obtain ⟨rfl, HT, HU, HF⟩ := hcut
          go_wp2_with fail
          go_roundw
          case rel => exact ⟨j + 1, by omega, by go_num, T2, HT, HU, HIv2, HF⟩
          case measure => simp [intOf]; omega
    · have hdl : decide ((j : Int) < (k1 : Int)) = false := by simp; omega
      go_wp2_with fail
      refine (equal_same a r v e a' r' v' e' T T (j + 1) N wr HT.out HU.out (Alike.refl T) HIv.out HIv.out (by omega) HN.out.1 HN.out.2).mono ?_
      rintro ev wd ⟨rfl, hf⟩
      dsimp only
      have HFz := Lib.hid ((HF3.out.trans HF.out fun i hi h => by have := HSB.out i h; omega).trans' hf)
      clear hf
      go_wp2
      go_ret
      exact ⟨rfl, HFz.out⟩
end Go.Proofs.YtodkhoclbhdihaaGreatDoor
