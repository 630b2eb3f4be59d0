/-
  Contract of tap's See: what is known ahead of it; the datagrams whose addresses cannot be.
-/
import Derived.Test.YtodkhoclbhdihaaDoorTap4
import Derived.Test.YtodkhoclbhdihaaDoorDecAny
namespace Go.Proofs.YtodkhoclbhdihaaDoor
open Go.RowKit

theorem wrap_fr (a c : Int) (w : World) : Calls Tryd.prog 22 #[.int .i64 a, .int .i64 c] w fun e w' => ∃ g, e = .returned (errV g) ∧ Fault w' g a c ∧ Fr None' w w' :=
  (wrap_any a c w).mono fun e w' ⟨h1, h2, h3⟩ => ⟨_, h1, h2, by rw [h3]; exact (Fr.refl _ _).alloc _⟩
theorem dec_code {xs : List UInt8} {x : Int × Int} (h : decF xs = .error x) : x.1 ≠ 0 := by
  unfold decF at h
  split at h
  · cases h; simp
  split at h
  · cases h; simp
  split at h
  · unfold bodyF at h
    split at h
    · cases h; simp
    · split at h
      · cases h; simp
      · split at h
        · cases h; simp
        · split at h
          · cases h; simp
          · cases h
  · cases h; simp
/-- The error value that a number and a place stand for. -/
def ErrIs (w : World) (X : Value) (x : Int × Int) : Prop := (x = (0, 0) ∧ X = .nilIface) ∨ (x.1 ≠ 0 ∧ ∃ g, X = errV g ∧ Fault w g x.2 x.1)
def SeePost (w : World) (a r v e : Nat) (x : (Int × Int) × GTap) (ev : Ending) (w' : World) : Prop :=
  ∃ X, ev = .returned X ∧ ErrIs w' X x.1 ∧ TapAt w' a r v e x.2 ∧ Fr (Its a r v e) w w'

theorem TapAt.upRec {w : World} {a r v e : Nat} {T : GTap} (h : TapAt w a r v e T) (l : List (Int × GOp)) : TapAt (mapSet vi opV w r l) a r v e { T with records := l } :=
  ⟨h.blk.mapSet r h.ne.1 l, h.recs.set l, h.revs.setFar (Ne.symm h.ne.2.2.2.1) l, h.eds.setFar (Ne.symm h.ne.2.2.2.2.1) l, h.ne⟩
theorem TapAt.upRev {w : World} {a r v e : Nat} {T : GTap} (h : TapAt w a r v e T) (l : List ((Int × Int) × Int)) : TapAt (mapSet nameV vi w v l) a r v e { T with revs := l } :=
  ⟨h.blk.mapSet v h.ne.2.1 l, h.recs.setFar h.ne.2.2.2.1 l, h.revs.set l, h.eds.setFar (Ne.symm h.ne.2.2.2.2.2) l, h.ne⟩
theorem TapAt.upEd {w : World} {a r v e : Nat} {T : GTap} (h : TapAt w a r v e T) (l : List ((Int × Int) × GEdit)) : TapAt (mapSet nameV editV w e l) a r v e { T with edits := l } :=
  ⟨h.blk.mapSet e h.ne.2.2.1 l, h.recs.setFar h.ne.2.2.2.2.1 l, h.revs.setFar h.ne.2.2.2.2.2 l, h.eds.set l, h.ne⟩
theorem TapAt.upEpoch {w : World} {a r v e : Nat} {T : GTap} (h : TapAt w a r v e T) (x : Int) : TapAt (w.setCell ⟨a, 1, none⟩ (.int .i64 x)) a r v e { T with epoch := x } := by
  have hf : Fr (Only a) w (w.setCell ⟨a, 1, none⟩ (.int .i64 x)) := (Fr.refl _ _).setCell (.inr (show a = a from rfl)) _
  refine ⟨by have := h.blk.set_ 1 (.int .i64 x); simpa using this, h.recs.fr hf (fun e => h.ne.1 e.symm), h.revs.fr hf (fun e => h.ne.2.1 e.symm), h.eds.fr hf (fun e => h.ne.2.2.1 e.symm), h.ne⟩

/-- An address that may not be. -/
def badAdr (n fr to_ : Int) : Prop := (decide (fr = 0) == decide (to_ = 0)) = true ∨ (fr < 0 ∨ to_ < 0) ∨ (n < fr ∨ n < to_)
theorem see_bad {T : GTap} {fr to_ : Int} {xs : List UInt8} (h : badAdr T.clients fr to_) : seeF T fr to_ xs = ((71, 0), T) := by
  unfold seeF
  rw [if_pos (by unfold badAdr at h; simpa using h)]
def minI (a b : Int) : Int := if b < a then b else a
theorem run_min (ts : Array TypeId) (ty : TypeId) (a b : Int) (w : World) : (Builtin.min_ ts ty #[.int .i64 a, .int .i64 b]).run Tryd.prog w = .ok (.int .i64 (minI a b)) w := rfl
theorem run_max (ts : Array TypeId) (ty : TypeId) (a b : Int) (w : World) : (Builtin.max_ ts ty #[.int .i64 a, .int .i64 b]).run Tryd.prog w = .ok (.int .i64 (maxI a b)) w := rfl
def adrB (n fr to_ : Int) : Bool := ((fr == 0) == (to_ == 0)) || decide (minI fr to_ < 0) || decide (n < maxI fr to_)
theorem adrB_iff (n fr to_ : Int) : adrB n fr to_ = true ↔ badAdr n fr to_ := by
  unfold adrB badAdr minI maxI
  simp only [Bool.or_eq_true, decide_eq_true_eq]
  constructor
  · rintro ((h | h) | h)
    · exact .inl h
    · refine .inr (.inl ?_); split at h <;> omega
    · refine .inr (.inr ?_); split at h <;> omega
  · rintro (h | h | h)
    · exact .inl (.inl h)
    · refine .inl (.inr ?_); split <;> omega
    · refine .inr ?_; split <;> omega

set_option maxHeartbeats 8000000 in
theorem see_adr (a r v e : Nat) (T : GTap) (fr to_ : Int) (A : Option Addr) (n c : Nat) (xs : List UInt8) (sp : Bool) (w : World) (hT : TapAt w a r v e T) (hbad : badAdr T.clients fr to_) :
    Calls Tryd.prog 12 #[.pointer (some ⟨a, 0, none⟩), dgV fr to_ (.slice A n c) sp] w fun ev w' => SeePost w a r v e (seeF T fr to_ xs) ev w' := by
  rw [see_bad hbad]
  obtain ⟨X, hX⟩ : ∃ X : World, X = w.alloc (.cells #[.int .i64 fr, .int .i64 to_, .slice A n c, .bool sp] 33) := ⟨_, rfl⟩
  have HX := Lib.hid hX
  have hXf : Fr None' w X := by rw [hX]; exact (Fr.refl _ _).alloc _
  have hD : Blk X w.heap.size 33 #[.int .i64 fr, .int .i64 to_, .slice A n c, .bool sp] := by rw [hX]; exact Blk.new _ _ _
  clear hX
  have hT1 := hT.frn hXf
  have z1 := hT1.cells
  have z2 : ∀ i, X.cell? ⟨w.heap.size, i, none⟩ = (#[.int .i64 fr, .int .i64 to_, .slice A n c, .bool sp] : Array Value)[i]? := fun i => Blk.cell hD i
  have HT := Lib.hid hT1
  have HF := Lib.hid hXf
  have He := Lib.hid wrap_fr
  have hadr := (adrB_iff _ _ _).2 hbad
  have HA := Lib.hid hadr
  clear hT hT1 hXf hD hadr
  unfold adrB at HA
  have hmin := fun ts ty w => run_min ts ty fr to_ w
  have hmax := fun ts ty w => run_max ts ty fr to_ w
  generalize minI fr to_ = mn at *
  generalize maxI fr to_ = mx at *
  unfold dgV
  cases gA : ((fr == 0) == (to_ == 0))
  · cases gB : decide (mn < 0)
    · have gC : decide (T.clients < mx) = true := by
        have := HA.out
        rw [gA, gB] at this
        simpa using this
      go_enter Tryd.func12, Tryd.ntmps12
      go_wp2
      rw [← HX.out]
      go_quiet (fail)
      go_wp2_with (go_at_call 22; refine (He.out _ _ _).mono ?_; rintro e1 w1 ⟨g, rfl, hF, hf1⟩)
      go_ret
      exact ⟨_, rfl, .inr ⟨by simp, g, rfl, hF⟩, (HT.out.frn ((Fr.refl _ _).drewN _)).frn hf1, ((HF.out.drewN _).trans' hf1).none⟩
    · go_enter Tryd.func12, Tryd.ntmps12
      go_wp2
      rw [← HX.out]
      go_quiet (fail)
      go_wp2_with (go_at_call 22; refine (He.out _ _ _).mono ?_; rintro e1 w1 ⟨g, rfl, hF, hf1⟩)
      go_ret
      exact ⟨_, rfl, .inr ⟨by simp, g, rfl, hF⟩, (HT.out.frn ((Fr.refl _ _).drewN _)).frn hf1, ((HF.out.drewN _).trans' hf1).none⟩
  · go_enter Tryd.func12, Tryd.ntmps12
    go_wp2
    rw [← HX.out]
    go_quiet (fail)
    go_wp2_with (go_at_call 22; refine (He.out _ _ _).mono ?_; rintro e1 w1 ⟨g, rfl, hF, hf1⟩)
    go_ret
    exact ⟨_, rfl, .inr ⟨by simp, g, rfl, hF⟩, (HT.out.frn ((Fr.refl _ _).drewN _)).frn hf1, ((HF.out.drewN _).trans' hf1).none⟩
end Go.Proofs.YtodkhoclbhdihaaDoor
