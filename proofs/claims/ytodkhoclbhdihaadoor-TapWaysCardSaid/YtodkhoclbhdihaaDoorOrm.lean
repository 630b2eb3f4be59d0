/-
  Drawn regions with growing memory whose last operations also write into blocks that S names. No program in it.
-/
import Derived.Test.YtodkhoclbhdihaaDoorOrd
namespace Go.Proofs.YtodkhoclbhdihaaDoor

/-- A world that W may have grown to, the blocks of S perhaps written. -/
structure LaterM (S : Nat → Prop) (W : World) where
  w : World
  fr : Fr S W w
instance laterM_nonempty (S : Nat → Prop) (W : World) : Nonempty (LaterM S W) := ⟨⟨W, Fr.refl _ _⟩⟩
def MC (S : Nat → Prop) (W : World) : World → Prop := fun w' => ∃ x : LaterM S W, w' = x.w
theorem MC.mk {S : Nat → Prop} {W w' : World} (h : Fr S W w') : MC S W w' := ⟨⟨w', h⟩, rfl⟩
theorem MC.fr {S : Nat → Prop} {W w' : World} (h : MC S W w') : Fr S W w' := by
  obtain ⟨x, rfl⟩ := h
  exact x.fr
section
variable {P : Program} {ops : Array Oper} {Q : Exit → Act → World → Prop} {W : World} {S : Nat → Prop}
abbrev wpM (P : Program) (ops : Array Oper) (Q : Exit → Act → World → Prop) (S : Nat → Prop) (W : World) : Nat → Array Bool → Act → World → Prop := wpS P .any ops Q (MC S W) (Fr None')
theorem wp_region_M (S : Nat → Prop) {id : Nat} {a : Act} {w : World} {l : List Oper} (hm : P.follows .mixedOrders = true)
    (h : wpM P l.toArray Q S w l.toArray.size (Array.replicate l.toArray.size false) a w.drew) : (Code.region id l.toArray true).wp P Q a w :=
  wp_region_S (MC S w) (Fr None') (Fr.refl _) hm (MC.mk (Fr.refl _ _).drew) h
theorem wpM_heads {l : List Oper} (n k f : Nat) {listed : Array Bool} {a : Act} {w : World} (hsel : Region.noSelect l.toArray = true) (hB : headsB .any l.toArray k n listed = true)
    (h : wpQuiet P l.toArray (fun w' => ∃ x : LaterM S W, w' = x.w) (fun a' => wpM P l.toArray Q S W f (listedAfter k n listed) a' w) ((l.drop k).take n) a)
    (hn : ((l.drop k).take n).all plainB = true) : wpM P l.toArray Q S W (f + n) listed a w :=
  wpS_heads (Fr.refl _) Fr.tr hsel n k f listed a w hB h fun o ho _ w w' f args => plain_run (List.all_eq_true.1 hn o ho) _ w w' f args
theorem wpM_call (hsel : Region.noSelect ops = true) (i d : Nat) {o : Oper} (ho : ops[i]? = some o) (hd : o.dst = some d) {f : Nat} {listed : Array Bool} {tl : List Value} {ds : List Deferred} {w : World}
    (hB : headsB .any ops i 1 listed = true) (hg : o.guard = none) (fn : FuncId) (args : Array Value) (v : Value)
    (hx : ∀ w, (execOp (Act.eval ⟨tl.toArray, ds⟩) o).run P w = .ok (.enter fn args) w)
    (hc : ∀ w', Fr S W w' → Calls P fn args w' fun e w2 => e = .returned v ∧ Fr None' w' w2)
    (h : wpM P ops Q S W f (listed.setIfInBounds i true) ⟨(tl.set d v).toArray, ds⟩ w) : wpM P ops Q S W (f + 1) listed ⟨tl.toArray, ds⟩ w :=
  wpS_call (Fr.refl _) Fr.tr hsel i ho hB hg fn args v hx (fun w' hw' => (hc w' hw'.fr).mono fun _ _ ⟨h1, h2⟩ => ⟨h1, MC.mk (hw'.fr.trans' h2.none), h2⟩) (by
    rw [hd]
    simpa [Act.put] using h)
theorem wpM_step (k : Nat) {o : Oper} (ho : ops[k]? = some o) {f : Nat} {listed : Array Bool} {a : Act} {w : World} (hrd : Region.ready .any ops listed = [k])
    (h : ∀ w', Fr S W w' → Fr None' w w' → wpList P ops (Then fun a2 w2 => MC S W w2 ∧ wpM P ops Q S W f (listed.setIfInBounds k true) a2 w2) [o] a w') : wpM P ops Q S W (f + 1) listed a w :=
  wpS_step k ho hrd fun w' h1 h2 => h w' h1.fr h2
theorem wpM_done {f : Nat} {listed : Array Bool} {a : Act} {w : World} (hrd : Region.ready .any ops listed = []) (h : ∀ w', Fr S W w' → Fr None' w w' → Q .normal a w') : wpM P ops Q S W f listed a w :=
  wpS_done hrd fun w' h1 h2 => h w' h1.fr h2
end
end Go.Proofs.YtodkhoclbhdihaaDoor
