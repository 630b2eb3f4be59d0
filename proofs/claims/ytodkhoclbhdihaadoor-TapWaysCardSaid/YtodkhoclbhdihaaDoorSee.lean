/-
  Contract of tap's See, all cases in one; Epoch.
-/
import Derived.Test.YtodkhoclbhdihaaDoorSeeC
namespace Go.Proofs.YtodkhoclbhdihaaDoor
open Go.RowKit

theorem see_any (B a r v e : Nat) (T : GTap) (fr to_ : Int) (A : Option Addr) (n c : Nat) (xs : List UInt8) (sp : Bool) (w : World) (hG : Glb B w) (hT : TapAt w a r v e T) (ha : RB w A n xs) (hc : n ≤ c) :
    Calls Tryd.prog 12 #[.pointer (some ⟨a, 0, none⟩), dgV fr to_ (.slice A n c) sp] w fun ev w' => SeePost w a r v e (seeF T fr to_ xs) ev w' := by
  by_cases hb : badAdr T.clients fr to_
  · exact see_adr a r v e T fr to_ A n c xs sp w hT hb
  cases hd : decF xs with
  | error x =>
    rw [see_err hb hd]
    exact see_dec B a r v e T fr to_ A n c xs sp w hG hT ha hc hb x hd
  | ok m =>
    rw [see_msg hb hd]
    cases hw : rightWay m fr to_ with
    | false =>
      simp only [if_true]
      exact see_way B a r v e T fr to_ A n c xs sp w hG hT ha hc hb m hd hw
    | true =>
      simp only [Bool.true_eq_false, if_false]
      by_cases h5 : m.kind = 5
      · rw [if_pos h5]
        cases hf : fitsRec T m.rev m.op with
        | false => simpa using see_rec_false B a r v e T fr to_ A n c xs sp w hG hT ha hc hb m hd hw h5 hf
        | true => simpa using see_rec_true B a r v e T fr to_ A n c xs sp w hG hT ha hc hb m hd hw h5 hf
      · rw [if_neg h5]
        by_cases h2 : m.kind = 2
        · rw [if_pos h2]
          cases hf : fitsEd T ⟨m.tag, m.op⟩ with
          | false => simpa using see_ed_false B a r v e T fr to_ A n c xs sp w hG hT ha hc hb m hd hw h2 hf
          | true => simpa using see_ed_true B a r v e T fr to_ A n c xs sp w hG hT ha hc hb m hd hw h2 hf
        · rw [if_neg h2]
          exact see_other B a r v e T fr to_ A n c xs sp w hG hT ha hc hb m hd hw h5 h2

theorem epoch_any (a r v e : Nat) (T : GTap) (w : World) (hT : TapAt w a r v e T) : Calls Tryd.prog 8 #[.pointer (some ⟨a, 0, none⟩)] w fun ev w' => ev = .returned (.int .i64 T.epoch) ∧ w = w' := by
  have z := hT.cells
  go_enter Tryd.func8, Tryd.ntmps8
  go_wp2
  go_ret
  exact ⟨rfl, rfl⟩
end Go.Proofs.YtodkhoclbhdihaaDoor
