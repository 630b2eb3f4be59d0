/-
  A guarded call in a region that draws its order. No program in it.
-/
import Derived.Test.YtodkhoclbhdihaaDoorOrd
namespace Go.Proofs.YtodkhoclbhdihaaDoor

section
variable {P : Program} {md : Region.Mode} {ops : Array Oper} {Q : Exit → Act → World → Prop} {C : World → Prop} {St : World → World → Prop}
theorem wpS_callG (hr : ∀ a, St a a) (ht : ∀ a b c, St a b → St b c → St a c) (hsel : Region.noSelect ops = true) (i : Nat) {o : Oper} (ho : ops[i]? = some o) {f : Nat} {listed : Array Bool} {a : Act} {w : World}
    (hB : headsB md ops i 1 listed = true) (hg : Region.wanted o (yielded ops a.tmps) = true) (fn : FuncId) (args : Array Value) (v : Value)
    (hx : ∀ w, (execOp a.eval o).run P w = .ok (.enter fn args) w)
    (hc : ∀ w', C w' → Calls P fn args w' fun e w2 => e = .returned v ∧ C w2 ∧ St w' w2)
    (h : wpS P md ops Q C St f (listed.setIfInBounds i true) (a.put o.dst v) w) : wpS P md ops Q C St (f + 1) listed a w := by
  simp only [headsB, Bool.and_eq_true] at hB
  obtain ⟨⟨hrd, hfr⟩, _⟩ := hB
  rw [List.contains_iff_mem] at hrd
  refine wpS_first hr ht ho (Region.noSelect_spec hsel) f listed a w (Region.free_spec ho hfr) hrd (.inl ⟨hg, fun w' hw' => ?_⟩) h
  unfold Oper.quietAt
  rw [hx]
  exact ⟨rfl, hc w' hw'⟩
theorem wpL_callG {W : World} (hsel : Region.noSelect ops = true) (i d : Nat) {o : Oper} (ho : ops[i]? = some o) (hd : o.dst = some d) {f : Nat} {listed : Array Bool} {tl : List Value} {ds : List Deferred} {w : World}
    (hB : headsB .any ops i 1 listed = true) (hg : Region.wanted o (yielded ops tl.toArray) = true) (fn : FuncId) (args : Array Value) (v : Value)
    (hx : ∀ w, (execOp (Act.eval ⟨tl.toArray, ds⟩) o).run P w = .ok (.enter fn args) w)
    (hc : ∀ w', Fr None' W w' → Calls P fn args w' fun e w2 => e = .returned v ∧ Fr None' w' w2)
    (h : wpL P ops Q W f (listed.setIfInBounds i true) ⟨(tl.set d v).toArray, ds⟩ w) : wpL P ops Q W (f + 1) listed ⟨tl.toArray, ds⟩ w :=
  wpS_callG (Fr.refl _) Fr.tr hsel i ho hB hg fn args v hx (fun w' hw' => (hc w' hw'.fr).mono fun _ _ ⟨h1, h2⟩ => ⟨h1, LC.mk (hw'.fr.trans' h2), h2⟩) (by
    rw [hd]
    simpa [Act.put] using h)
end
end Go.Proofs.YtodkhoclbhdihaaDoor
