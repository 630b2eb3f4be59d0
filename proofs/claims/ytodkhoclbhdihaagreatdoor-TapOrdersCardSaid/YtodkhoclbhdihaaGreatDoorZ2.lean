/-
  A region that draws its order, with calls that make memory in it: operations whose value is the same in every world of a class are taken first; the others come in whatever order is left, the memory growing between them. No program in it.
-/
import Derived.Test.YtodkhoclbhdihaaGreatDoorZ1
import Derived.Test.YtodkhoclbhdihaaGreatDoorRows
import Derived.ProofKit
import Derived.LaidLaws
import Derived.LaidHandle
import Derived.LaidMore
import Derived.Lib.LaidTab
import Derived.Stop.Joined
import Derived.OpenShut
import Derived.ChangeArms
import Derived.ChangeSame
namespace Go.Proofs.YtodkhoclbhdihaaGreatDoor

/-- The exits that are not allowed inside. -/
def NoExit : Exit → Act → World → Prop := fun _ _ _ => False

section
variable {P : Program} {md : Region.Mode} {ops : Array Oper} {Q : Exit → Act → World → Prop} {C : World → Prop} {St : World → World → Prop}

/-- Whatever order is picked from here on, and whatever the class's own steps do between. -/
def wpS (P : Program) (md : Region.Mode) (ops : Array Oper) (Q : Exit → Act → World → Prop) (C : World → Prop) (St : World → World → Prop) : Nat → Array Bool → Act → World → Prop
  | 0, listed, a, w => ∀ w', C w' → St w w' → Region.ready md ops listed = [] ∧ Q .normal a w'
  | f + 1, listed, a, w => ∀ w', C w' → St w w' → (Region.ready md ops listed = [] → Q .normal a w') ∧
      ∀ i ∈ Region.ready md ops listed, wpOp P ops NoExit i (fun a2 w2 => C w2 ∧ wpS P md ops Q C St f (listed.setIfInBounds i true) a2 w2) a w'

theorem wpS_later (ht : ∀ a b c, St a b → St b c → St a c) {f : Nat} {listed : Array Bool} {a : Act} {w w1 : World} (h : wpS P md ops Q C St f listed a w) (hs : St w w1) : wpS P md ops Q C St f listed a w1 := by
  cases f with
  | zero => exact fun w' hc hs' => h w' hc (ht _ _ _ hs hs')
  | succ f => exact fun w' hc hs' => h w' hc (ht _ _ _ hs hs')

theorem wpOp_exits {i : Nat} {K : Act → World → Prop} {a : Act} {w : World} (h : wpOp P ops NoExit i K a w) : wpOp P ops Q i K a w := by
  unfold wpOp at *
  split
  · rename_i ho; simp only [ho] at h; exact h
  · rename_i o ho
    simp only [ho] at h
    split
    · rename_i hw
      simp only [hw, if_true] at h
      rcases h with h | ⟨_, _, _, h⟩
      · refine .inl ?_
        unfold Oper.wp at *
        generalize (execOp a.eval o).run P w = r at *
        cases r with
        | ok n w' =>
          cases n <;> simp only [Oper.upon] at h ⊢ <;> try exact h
          exact Calls.mono h fun e w'' he => by
            cases e with
            | returned u => exact he
            | panicked c => exact (he : False).elim
            | outgrown => obtain ⟨_, _, h⟩ := he; exact (h : False).elim
        | halt x w' =>
          cases x <;> simp only [Oper.upon] at h ⊢
          exact (h : False).elim
      · exact (h : False).elim
    · rename_i hw
      simp only [hw] at h
      exact h

theorem wpAny_of_S (hr : ∀ a, St a a) : ∀ (f : Nat) (listed : Array Bool) (a : Act) (w : World), C w → wpS P md ops Q C St f listed a w → wpAny P md ops Q f listed a w
  | 0, _, _, w, hc, h => h w hc (hr w)
  | f + 1, _, _, w, hc, h => ⟨(h w hc (hr w)).1, fun i hi => wpOp_mono (fun a2 w2 h2 => wpAny_of_S hr f _ a2 w2 h2.1 h2.2) (wpOp_exits ((h w hc (hr w)).2 i hi))⟩

/-- In every world of the class operation o leaves v, and a world of the class that is a step of it. -/
def YieldsS (P : Program) (ops : Array Oper) (C : World → Prop) (St : World → World → Prop) (o : Oper) (v : Value) (a : Act) : Prop :=
  (Region.wanted o (yielded ops a.tmps) = true ∧ ∀ w, C w → o.quietAt P a (fun w' => C w' ∧ St w w') w v) ∨
  (Region.wanted o (yielded ops a.tmps) = false ∧ v = undef)

theorem YieldsS.of_same {o : Oper} {v : Value} {a a' : Act} (hy : YieldsS P ops C St o v a) (he : execOp a'.eval o = execOp a.eval o)
    (hw : Region.wanted o (yielded ops a'.tmps) = Region.wanted o (yielded ops a.tmps)) : YieldsS P ops C St o v a' := by
  unfold YieldsS Oper.quietAt at *
  rw [he, hw]
  exact hy

theorem YieldsS.wpOp (hr : ∀ a, St a a) {i : Nat} {o : Oper} {v : Value} {a : Act} (hi : ops[i]? = some o) (hy : YieldsS P ops C St o v a) {K : Act → World → Prop} {w : World} (hc : C w) (h : ∀ w', C w' → St w w' → K (a.put o.dst v) w') : wpOp P ops NoExit i K a w := by
  unfold Go.wpOp
  simp only [hi]
  rcases hy with ⟨hw, hv⟩ | ⟨hw, rfl⟩
  · simp only [hw, if_true]
    refine .inl ?_
    have h3 := hv w hc
    unfold Oper.quietAt at h3
    unfold Oper.wp
    generalize (execOp a.eval o).run P w = r at *
    match r, h3 with
    | .ok (.value u) w', ⟨h1, h2⟩ => subst h1 h2; exact h _ hc (hr _)
    | .ok .skip w', ⟨h1, h2⟩ => subst h1 h2; exact h _ hc (hr _)
    | .ok (.enter f args) w', ⟨h1, h2⟩ =>
      subst h1
      exact Calls.mono h2 fun e w'' ⟨he, h4, h5⟩ => by subst he; exact h _ h4 h5
  · simp only [hw, Bool.false_eq_true, if_false]
    exact h _ hc (hr _)

theorem wpOp_putS {j : Nat} {oi oj : Oper} {v : Value} (hj : ops[j]? = some oj) (hap : oi.apart ops oj = true)
    (hsi : ∀ cs b, oi.op ≠ .select cs b) (hsj : ∀ cs b, oj.op ≠ .select cs b) {K : Act → World → Prop} {a : Act} {w : World}
    (hy : YieldsS P ops C St oi v a) (h : wpOp P ops NoExit j K (a.put oi.dst v) w) :
    wpOp P ops NoExit j (fun a' w' => YieldsS P ops C St oi v a' ∧ K (a'.put oi.dst v) w') a w := by
  obtain ⟨h1, h2, h3⟩ := Oper.apart_spec hap
  have keep : ∀ (a : Act), YieldsS P ops C St oi v a → ∀ u, YieldsS P ops C St oi v (a.put oj.dst u) := fun a hy u =>
    hy.of_same (execOp_put oi hsi a oj.dst u h3) (wanted_put oi a oj.dst u h3)
  have keepD : ∀ d, YieldsS P ops C St oi v { a with defers := d :: a.defers } := fun d => hy.of_same rfl rfl
  unfold wpOp at *
  simp only [hj] at *
  rw [wanted_put oj a oi.dst v h1] at h
  split
  · rename_i hw
    simp only [hw, if_true] at h
    rcases h with h | ⟨_, _, _, hlets⟩
    case inr => exact (hlets : False).elim
    refine .inl ?_
    unfold Oper.wp at *
    rw [execOp_put oj hsj a oi.dst v h1] at h
    generalize (execOp a.eval oj).run P w = r at *
    cases r with
    | ok n w' =>
      cases n <;> simp only [Oper.upon] at h ⊢
      case value u => exact ⟨keep a hy u, by rw [← Act.put_comm a v u h2]; exact h⟩
      case skip => exact ⟨keep a hy _, by rw [← Act.put_comm a v undef h2]; exact h⟩
      case defer d =>
        refine ⟨keep _ (keepD d) _, ?_⟩
        rw [← Act.put_comm _ v undef h2, ← Act.put_defers]
        exact h
      case enter f args =>
        refine Calls.mono h fun e w'' he => ?_
        cases e with
        | returned u => exact ⟨keep a hy u, by rw [← Act.put_comm a v u h2]; exact he⟩
        | panicked c => exact he
        | outgrown => exact he
      case row row args => exact Rows.mono h fun u w'' he => ⟨keep a hy u, by rw [← Act.put_comm a v u h2]; exact he⟩
    | halt x w' =>
      cases x <;> simp only [Oper.upon] at h ⊢
      case panic u => exact h
  · rename_i hw
    simp only [hw] at h
    exact ⟨keep a hy _, by rw [← Act.put_comm a v undef h2]; exact h⟩

/-- **An operation that yields in every world of the class may be taken first.** -/
theorem wpS_first (hr : ∀ a, St a a) (ht : ∀ a b c, St a b → St b c → St a c) {i : Nat} {oi : Oper} {v : Value} (hi : ops[i]? = some oi) (hsel : ∀ (j : Nat) (o : Oper) cs b, ops[j]? = some o → o.op ≠ .select cs b) :
    ∀ (fuel : Nat) (listed : Array Bool) (a : Act) (w : World),
      (∀ j oj, ops[j]? = some oj → j ≠ i → listed.getD j true = false → (∀ e ∈ oj.after, Region.binds md e = true → e.on ≠ i) → oi.apart ops oj = true) →
      i ∈ Region.ready md ops listed → YieldsS P ops C St oi v a →
      wpS P md ops Q C St fuel (listed.setIfInBounds i true) (a.put oi.dst v) w → wpS P md ops Q C St (fuel + 1) listed a w := by
  intro fuel
  induction fuel with
  | zero =>
    intro listed a w _ hrd hy H w' hc hs
    refine ⟨fun h => (by rw [h] at hrd; cases hrd), fun j hj => ?_⟩
    by_cases hji : j = i
    · subst hji
      exact hy.wpOp hr hi hc fun w2 h2 h3 => ⟨h2, wpS_later ht H (ht _ _ _ hs h3)⟩
    · have := ready_mono hj hji
      rw [(H w' hc hs).1] at this
      cases this
  | succ fuel ih =>
    intro listed a w hfree hrd hy H w' hc hs
    refine ⟨fun h => (by rw [h] at hrd; cases hrd), fun j hj => ?_⟩
    by_cases hji : j = i
    · subst hji
      exact hy.wpOp hr hi hc fun w2 h2 h3 => ⟨h2, wpS_later ht H (ht _ _ _ hs h3)⟩
    · have h1 := (H w' hc hs).2 j (ready_mono hj hji)
      obtain ⟨hjun, oj, hoj, hall⟩ := mem_ready.1 hj
      have hnot : ∀ e ∈ oj.after, Region.binds md e = true → e.on ≠ i := fun e he hb heq => by
        have h1 := hall e he hb
        have h0 := (mem_ready.1 hrd).1
        rw [heq] at h1
        rcases Nat.lt_or_ge i listed.size with h' | h'
        · simp [h'] at h0 h1; rw [h0] at h1; cases h1
        · simp [Array.getElem?_eq_none h'] at h1
      have h2 := wpOp_putS hoj (hfree j oj hoj hji hjun hnot) (fun cs b => hsel i oi cs b hi) (fun cs b => hsel j oj cs b hoj) hy h1
      have hfree' : ∀ k ok, ops[k]? = some ok → k ≠ i → (listed.setIfInBounds j true).getD k true = false →
          (∀ e ∈ ok.after, Region.binds md e = true → e.on ≠ i) → oi.apart ops ok = true := fun k ok hk hki hun hno => by
        refine hfree k ok hk hki ?_ hno
        by_cases hjk : j = k
        · subst hjk; exact hjun
        · rw [getD_set_ne true hjk] at hun; exact hun
      refine wpOp_mono (fun a' w' h3 => ⟨h3.2.1, ih (listed.setIfInBounds j true) a' w' hfree' (ready_mono hrd (Ne.symm hji)) h3.1 ?_⟩) h2
      rw [Array.setIfInBounds_comm _ _ hji]
      exact h3.2.2

/-! ### how it is used -/
/-- A piece of a list of operations, taken first one after the other. -/
def headsB (md : Region.Mode) (ops : Array Oper) : Nat → Nat → Array Bool → Bool
  | _, 0, _ => true
  | k, n + 1, listed => (Region.ready md ops listed).contains k && Region.free md ops listed k && headsB md ops (k + 1) n (listed.setIfInBounds k true)
def listedAfter : Nat → Nat → Array Bool → Array Bool
  | _, 0, listed => listed
  | k, n + 1, listed => listedAfter (k + 1) n (listed.setIfInBounds k true)
/-- No call of a Go function. -/
def noCallB (o : Oper) : Bool := match o.op with | .call { callee := .builtin _, .. } => true | .call _ => false | _ => true

theorem yieldsS_of_quiet {o : Oper} {a : Act} {v : Value} (hn : ∀ w w' f args, (execOp a.eval o).run P w ≠ .ok (.enter f args) w') (h : ∀ w, C w → o.quietAt P a C w v) : ∀ w, C w → o.quietAt P a (fun w' => C w' ∧ St w w') w v := by
  intro w hc
  have h3 := h w hc
  have h4 := hn w
  unfold Oper.quietAt at *
  generalize (execOp a.eval o).run P w = r at *
  match r, h3 with
  | .ok (.value u) w', h => exact h
  | .ok .skip w', h => exact h
  | .ok (.enter f args) w', _ => exact absurd rfl (h4 w' f args)

/-- Taken first: a piece of the text that only reads. -/
theorem wpS_heads {l : List Oper} (hr : ∀ a, St a a) (ht : ∀ a b c, St a b → St b c → St a c) (hsel : Region.noSelect l.toArray = true) :
    ∀ (n k f : Nat) (listed : Array Bool) (a : Act) (w : World), headsB md l.toArray k n listed = true →
      wpQuiet P l.toArray (fun w' => C w') (fun a' => wpS P md l.toArray Q C St f (listedAfter k n listed) a' w) ((l.drop k).take n) a →
      (∀ o ∈ (l.drop k).take n, ∀ a w w' f args, (execOp (Act.eval a) o).run P w ≠ .ok (.enter f args) w') →
      wpS P md l.toArray Q C St (f + n) listed a w
  | 0, _, _, _, _, _, _, h, _ => by simpa [wpQuiet, listedAfter] using h
  | n + 1, k, f, listed, a, w, hB, h, hn => by
    simp only [headsB, Bool.and_eq_true] at hB
    obtain ⟨⟨hrd, hfr⟩, hB⟩ := hB
    rw [List.contains_iff_mem] at hrd
    have hrd' := hrd
    rw [mem_ready] at hrd
    obtain ⟨_, o, ho, _⟩ := hrd
    have hk : k < l.length := by
      have := (Array.getElem?_eq_some_iff.1 ho).1
      simpa using this
    have hl : (l.drop k).take (n + 1) = o :: (l.drop (k + 1)).take n := by
      rw [List.drop_eq_getElem_cons hk, List.take_succ_cons]
      simp at ho
      rw [List.getElem?_eq_getElem hk] at ho
      cases ho
      rfl
    rw [hl] at h hn
    unfold wpQuiet at h
    have hfree := Region.free_spec ho hfr
    by_cases hw : Region.wanted o (yielded l.toArray a.tmps) = true
    · rw [if_pos hw] at h
      obtain ⟨v, hv, hk2⟩ := h
      refine wpS_first hr ht ho (Region.noSelect_spec hsel) (f + n) listed a w (fun j oj hj hne hun hno => hfree j oj hj hne hun hno) hrd' (.inl ⟨hw, yieldsS_of_quiet (fun w w' f args => hn o (by simp) a w w' f args) hv⟩) ?_
      exact wpS_heads hr ht hsel n (k + 1) f _ _ w hB hk2 fun o' ho' => hn o' (by simp [ho'])
    · rw [if_neg hw] at h
      refine wpS_first hr ht ho (Region.noSelect_spec hsel) (f + n) listed a w (fun j oj hj hne hun hno => hfree j oj hj hne hun hno) hrd' (.inr ⟨by simpa using hw, rfl⟩) ?_
      exact wpS_heads hr ht hsel n (k + 1) f _ _ w hB h fun o' ho' => hn o' (by simp [ho'])

/-- Taken first: a call whose value is the same in every world of the class. -/
theorem wpS_call (hr : ∀ a, St a a) (ht : ∀ a b c, St a b → St b c → St a c) (hsel : Region.noSelect ops = true) (i : Nat) {o : Oper} (ho : ops[i]? = some o) {f : Nat} {listed : Array Bool} {a : Act} {w : World}
    (hB : headsB md ops i 1 listed = true) (hg : o.guard = none) (fn : FuncId) (args : Array Value) (v : Value)
    (hx : ∀ w, (execOp a.eval o).run P w = .ok (.enter fn args) w)
    (hc : ∀ w', C w' → Calls P fn args w' fun e w2 => e = .returned v ∧ C w2 ∧ St w' w2)
    (h : wpS P md ops Q C St f (listed.setIfInBounds i true) (a.put o.dst v) w) : wpS P md ops Q C St (f + 1) listed a w := by
  simp only [headsB, Bool.and_eq_true] at hB
  obtain ⟨⟨hrd, hfr⟩, _⟩ := hB
  rw [List.contains_iff_mem] at hrd
  refine wpS_first hr ht ho (Region.noSelect_spec hsel) f listed a w (Region.free_spec ho hfr) hrd (.inl ⟨by simp [Region.wanted, hg], fun w' hw' => ?_⟩) h
  unfold Oper.quietAt
  rw [hx]
  exact ⟨rfl, hc w' hw'⟩

/-- What is to be shown behind one operation. -/
def Then (K : Act → World → Prop) : Exit → Act → World → Prop
  | .normal, a, w => K a w
  | _, _, _ => False
theorem wpOp_of_list {k : Nat} {o : Oper} (ho : ops[k]? = some o) {K : Act → World → Prop} {a : Act} {w : World} (h : wpList P ops (Then K) [o] a w) : wpOp P ops NoExit k K a w := by
  unfold wpOp
  simp only [ho]
  unfold wpList at h
  split
  · rename_i hw
    rw [if_pos hw] at h
    rcases h with h | ⟨_, _, _, hl⟩
    · refine .inl ?_
      unfold Oper.wp at *
      generalize (execOp a.eval o).run P w = r at *
      cases r with
      | ok n w' =>
        cases n <;> simp only [Oper.upon] at h ⊢ <;> (try exact h)
      | halt x w' =>
        cases x <;> simp only [Oper.upon] at h ⊢
        all_goals exact (h : False).elim
    · exact (hl : False).elim
  · rename_i hw
    rw [if_neg hw] at h
    exact h
/-- One operation alone may come up now. -/
theorem wpS_step (k : Nat) {o : Oper} (ho : ops[k]? = some o) {f : Nat} {listed : Array Bool} {a : Act} {w : World} (hrd : Region.ready md ops listed = [k])
    (h : ∀ w', C w' → St w w' → wpList P ops (Then fun a2 w2 => C w2 ∧ wpS P md ops Q C St f (listed.setIfInBounds k true) a2 w2) [o] a w') : wpS P md ops Q C St (f + 1) listed a w := by
  intro w' hc hs
  refine ⟨fun h0 => (by rw [h0] at hrd; cases hrd), fun i hi => ?_⟩
  rw [hrd] at hi
  obtain rfl : i = k := by simpa using hi
  exact wpOp_of_list ho (h w' hc hs)
theorem wpS_done {f : Nat} {listed : Array Bool} {a : Act} {w : World} (hrd : Region.ready md ops listed = []) (h : ∀ w', C w' → St w w' → Q .normal a w') : wpS P md ops Q C St f listed a w := by
  cases f with
  | zero => exact fun w' hc hs => ⟨hrd, h w' hc hs⟩
  | succ f => exact fun w' hc hs => ⟨fun _ => h w' hc hs, fun i hi => by rw [hrd] at hi; cases hi⟩
theorem wp_region_S {id : Nat} {a : Act} {w : World} {l : List Oper} (C : World → Prop) (St : World → World → Prop) (hr : ∀ a, St a a) (hm : P.follows .mixedOrders = true) (hC : C w.drew)
    (h : wpS P .any l.toArray Q C St l.toArray.size (Array.replicate l.toArray.size false) a w.drew) : (Code.region id l.toArray true).wp P Q a w :=
  wp_region_any hm (wpAny_of_S hr _ _ _ _ hC h)

end
/-- Operations that call no Go function, whatever they find. -/
def plainB (o : Oper) : Bool :=
  match o.op with
  | .move _ | .assign _ | .pick .. | .load .. | .fieldAddr .. | .field .. | .indexAddr .. | .index .. | .lookup .. | .makeInterface .. | .extract .. | .convert .. | .binOp .. | .unOp .. | .slice .. | .nilCheck _ | .typeAssert .. | .build .. => true
  | .call { callee := .builtin .len, .. } | .call { callee := .builtin .cap, .. } => true
  | _ => false
theorem run_b {P : Program} {α : Type} (s : Sem α) (k : α → Sem Next) (w w' : World) (f : FuncId) (args : Array Value) (h : ∀ a w, (k a).run P w ≠ .ok (.enter f args) w') : (s >>= k).run P w ≠ .ok (.enter f args) w' := by
  rw [Sem.run_bind]
  cases s.run P w with
  | ok x w1 => exact h x w1
  | halt x w1 => intro h; cases h
theorem run_v {P : Program} (s : Sem Value) (w w' : World) (f : FuncId) (args : Array Value) : ((do let x ← s; pure (Next.value x)) : Sem Next).run P w ≠ .ok (.enter f args) w' := by
  rw [Sem.run_bind]
  cases s.run P w with
  | ok x w1 => intro h; cases h
  | halt x w1 => intro h; cases h
theorem plain_run {P : Program} {o : Oper} (h : plainB o = true) (ρ : Operand → Value) (w w' : World) (f : FuncId) (args : Array Value) : (execOp ρ o).run P w ≠ .ok (.enter f args) w' := by
  obtain ⟨dst, op, ty, pos, after, g⟩ := o
  cases op with
  | move x => intro h; cases h
  | assign x => intro h; cases h
  | pick c a b =>
    simp only [execOp]
    rw [Sem.run_bind]
    cases (asBool (ρ c)).run P w with
    | ok x w1 => intro h; cases h
    | halt x w1 => intro h; cases h
  | nilCheck x =>
    simp only [execOp]
    split
    all_goals try (intro h; cases h; done)
    split
    all_goals try (intro h; cases h; done)
    refine run_b _ _ _ _ _ _ fun pr w1 => run_b _ _ _ _ _ _ fun b w2 => ?_
    split
    · refine run_b _ _ _ _ _ _ fun _ w3 => ?_
      intro h; cases h
    · intro h; cases h
  | call c =>
    obtain ⟨callee, ags, ats⟩ := c
    cases callee with
    | builtin b =>
      cases b <;> simp [plainB] at h
      all_goals
        rw [BigFrame.execOp_builtin]
        exact run_v _ _ _ _ _
    | _ => simp [plainB] at h
  | _ =>
    first
      | (simp [plainB] at h; done)
      | exact run_v _ _ _ _ _

theorem Fr.tr {S : Nat → Prop} : ∀ a b c : World, Fr S a b → Fr S b c → Fr S a c := fun _ _ _ h k => h.trans' k
/-- A world that W may have grown to. -/
structure Later (W : World) where
  w : World
  fr : Fr None' W w
instance later_nonempty (W : World) : Nonempty (Later W) := ⟨⟨W, Fr.refl _ _⟩⟩
def LC (W : World) : World → Prop := fun w' => ∃ x : Later W, w' = x.w
theorem LC.mk {W w' : World} (h : Fr None' W w') : LC W w' := ⟨⟨w', h⟩, rfl⟩
theorem LC.fr {W w' : World} (h : LC W w') : Fr None' W w' := by
  obtain ⟨x, rfl⟩ := h
  exact x.fr
section
variable {P : Program} {ops : Array Oper} {Q : Exit → Act → World → Prop} {W : World}
/-- The same over worlds that have grown. -/
abbrev wpL (P : Program) (ops : Array Oper) (Q : Exit → Act → World → Prop) (W : World) : Nat → Array Bool → Act → World → Prop := wpS P .any ops Q (LC W) (Fr None')
theorem wp_region_L {id : Nat} {a : Act} {w : World} {l : List Oper} (hm : P.follows .mixedOrders = true)
    (h : wpL P l.toArray Q w l.toArray.size (Array.replicate l.toArray.size false) a w.drew) : (Code.region id l.toArray true).wp P Q a w :=
  wp_region_S (LC w) (Fr None') (Fr.refl _) hm (LC.mk (Fr.refl _ _).drew) h
theorem wpL_heads {l : List Oper} (n k f : Nat) {listed : Array Bool} {a : Act} {w : World} (hsel : Region.noSelect l.toArray = true) (hB : headsB .any l.toArray k n listed = true)
    (h : wpQuiet P l.toArray (fun w' => ∃ x : Later W, w' = x.w) (fun a' => wpL P l.toArray Q W f (listedAfter k n listed) a' w) ((l.drop k).take n) a)
    (hn : ((l.drop k).take n).all plainB = true) : wpL P l.toArray Q W (f + n) listed a w :=
  wpS_heads (Fr.refl _) Fr.tr hsel n k f listed a w hB h fun o ho _ w w' f args => plain_run (List.all_eq_true.1 hn o ho) _ w w' f args
theorem wpL_call (hsel : Region.noSelect ops = true) (i d : Nat) {o : Oper} (ho : ops[i]? = some o) (hd : o.dst = some d) {f : Nat} {listed : Array Bool} {tl : List Value} {ds : List Deferred} {w : World}
    (hB : headsB .any ops i 1 listed = true) (hg : o.guard = none) (fn : FuncId) (args : Array Value) (v : Value)
    (hx : ∀ w, (execOp (Act.eval ⟨tl.toArray, ds⟩) o).run P w = .ok (.enter fn args) w)
    (hc : ∀ w', Fr None' W w' → Calls P fn args w' fun e w2 => e = .returned v ∧ Fr None' w' w2)
    (h : wpL P ops Q W f (listed.setIfInBounds i true) ⟨(tl.set d v).toArray, ds⟩ w) : wpL P ops Q W (f + 1) listed ⟨tl.toArray, ds⟩ w :=
  wpS_call (Fr.refl _) Fr.tr hsel i ho hB hg fn args v hx (fun w' hw' => (hc w' hw'.fr).mono fun _ _ ⟨h1, h2⟩ => ⟨h1, LC.mk (hw'.fr.trans' h2), h2⟩) (by
    rw [hd]
    simpa [Act.put] using h)
theorem wpL_step (k : Nat) {o : Oper} (ho : ops[k]? = some o) {f : Nat} {listed : Array Bool} {a : Act} {w : World} (hrd : Region.ready .any ops listed = [k])
    (h : ∀ w', Fr None' W w' → Fr None' w w' → wpList P ops (Then fun a2 w2 => LC W w2 ∧ wpL P ops Q W f (listed.setIfInBounds k true) a2 w2) [o] a w') : wpL P ops Q W (f + 1) listed a w :=
  wpS_step k ho hrd fun w' h1 h2 => h w' h1.fr h2
theorem wpL_done {f : Nat} {listed : Array Bool} {a : Act} {w : World} (hrd : Region.ready .any ops listed = []) (h : ∀ w', Fr None' W w' → Fr None' w w' → Q .normal a w') : wpL P ops Q W f listed a w :=
  wpS_done hrd fun w' h1 h2 => h w' h1.fr h2
end
end Go.Proofs.YtodkhoclbhdihaaGreatDoor

/-
  Contract of wire's Encode.
-/
namespace Go.Proofs.YtodkhoclbhdihaaGreatDoor
open Go.RowKit

/-- The shapes lie in their variable, below block B. -/
def ShapeG (B : Nat) (w : World) : Prop := ∀ k, k < 7 → ∃ A c, w.cell? ⟨0, k, none⟩ = some (.slice A (shape k).length c) ∧ RN w A (shape k).length (shape k) ∧ ∀ j, Foot A (shape k).length j → j < B
/-- The package-level variables that are read, all below block B. -/
structure Glb (B : Nat) (w : World) : Prop where
  tab : Tab w
  err : ErrT w
  size : SizeG w
  shapes : ShapeG B w
  four : 4 ≤ B
  le : B ≤ w.heap.size
theorem Glb.fr {B : Nat} {w w' : World} {S : Nat → Prop} (h : Glb B w) (hf : Fr S w w') (hs : ∀ k, S k → B ≤ k) : Glb B w' := by
  have h4 := h.four
  have n : ∀ k, k < 4 → ¬ S k := fun k hk hS => by have := hs k hS; omega
  refine ⟨⟨Nat.lt_of_lt_of_le h.tab.1 hf.size, fun i hi => (hf.cell (p := ⟨3, i, none⟩) h.tab.1 (n 3 (by omega))).trans (h.tab.2 i hi)⟩, h.err.fr hf (n _ (by omega)), h.size.fr hf (n _ (by omega)), ?_, h4, Nat.le_trans h.le hf.size⟩
  intro k hk
  obtain ⟨A, c, hc, hr, hb⟩ := h.shapes k hk
  exact ⟨A, c, (hf.cell (p := ⟨0, k, none⟩) (lt_of_cell hc) (n 0 (by omega))).trans hc, hr.fr hf fun j hj hS => by have := hb j hj; have := hs j hS; omega, hb⟩

theorem enc_kind (m : GMsg) (w : World) (h : m.kind < 1 ∨ 6 < m.kind) :
    Calls Tryz.prog 61 #[msgV m] w fun e w' => ∃ g, e = .returned (.tuple #[.slice none 0 0, errV g]) ∧ Fault w' g 0 61 ∧ Fr None' w w' := by
  have He := Lib.hid fun w => wrap_any 0 61 w
  unfold msgV msgCells opCells
  go_enter Tryz.func61, Tryz.ntmps61
  go_wp2_with (go_at_call 62; refine (He.out _).mono ?_; rintro e w' ⟨rfl, hF, rfl⟩)
  all_goals first
    | omega
    | (go_ret2; exact ⟨_, rfl, by simpa using hF, ((Fr.refl _ _).alloc _).alloc _⟩)

/-- A whole variable of values written. -/
theorem run_store_vals {w : World} {g : Nat} {t : TypeId} {cur : Array Value} (h : Blk w g t cur) (hs : cur.size = 14) (v : V) :
    (storeCells ⟨g, 0, none⟩ (vcells v).toList).run Tryz.prog w = .ok () (w.setRow g (vcells v)) := by
  have := run_storeCells_at Tryz.prog g 0 t (vcells v).toList 0 cur w h (by simp [vcells, hs]) (by simp [vcells, Value.oneCell'])
  rw [this]
  have e : cur.toList.drop 14 = [] := List.drop_of_length_le (by simp [hs])
  simp [vcells, e]

/-- What Encode answers. -/
def EncPost (w : World) (m : GMsg) (e : Ending) (w' : World) : Prop :=
  match encF m with
  | .ok l => ∃ v, e = .returned (.tuple #[v, .nilIface]) ∧ NewB w w' v l ∧ Fr None' w w'
  | .error (c, a) => ∃ g, e = .returned (.tuple #[.slice none 0 0, errV g]) ∧ Fault w' g a c ∧ Fr None' w w'

theorem firstBad_some {v : V} {sh : List Nat} {mk : Int} {f : Nat} (h1 : 1 ≤ f) (h2 : f < 14) (hb : badF v sh mk f = true) (hp : ∀ j, 1 ≤ j → j < f → badF v sh mk j = false) : firstBad v sh mk = some f := by
  unfold firstBad
  rw [List.find?_range'_eq_some]
  refine ⟨hb, by simp; omega, fun j hj1 hj2 => ?_⟩
  simp [hp j hj1 hj2]
theorem firstBad_none {v : V} {sh : List Nat} {mk : Int} (hp : ∀ j, 1 ≤ j → j < 14 → badF v sh mk j = false) : firstBad v sh mk = none := by
  unfold firstBad
  rw [List.find?_range'_eq_none]
  intro j hj1 hj2
  simp [hp j hj1 (by omega)]

theorem shape_len (k : Nat) : (shape k).length ≤ 10 := by
  match k with
  | 0 | 1 | 2 | 3 | 4 | 5 | 6 => decide
  | k + 7 => simp [shape]
theorem shape_mem (k : Nat) : ∀ f ∈ shape k, 1 ≤ f ∧ f < 14 := by
  match k with
  | 0 | 1 | 2 | 3 | 4 | 5 | 6 => decide
  | k + 7 => simp [shape]
theorem mayB_of {v : V} {sh : List Nat} {mk : Int} {f : Nat} (h : badF v sh mk f = false) (hm : f ∈ sh) : loF f v mk ≤ v f ∧ v f ≤ hiF f v mk := by
  have hn : namedB sh f = true := by unfold namedB; simpa using hm
  unfold badF mayB at h
  rw [hn] at h
  simpa using h
theorem named_pos {v : V} {sh : List Nat} {mk : Int} (hp : ∀ j, 1 ≤ j → j < 14 → badF v sh mk j = false) (hmk : mk = 0 ∨ (mk = v 2 ∧ 2 ∈ sh)) (f : Nat) (hf : 1 ≤ f ∧ f < 14) (hm : f ∈ sh) : 0 ≤ v f ∧ v f ≤ 65535 := by
  have h := mayB_of (hp f hf.1 hf.2) hm
  have hk : mk = 0 ∨ (1 ≤ mk ∧ mk ≤ 64) := by
    rcases hmk with h0 | ⟨h0, h2⟩
    · exact .inl h0
    · have := mayB_of (hp 2 (by omega) (by omega)) h2
      simp only [loF, hiF] at this
      exact .inr (by omega)
  clear hp hmk hm
  obtain rfl | rfl | rfl | rfl | rfl | rfl | rfl | rfl | rfl | rfl | rfl | rfl | rfl : f = 1 ∨ f = 2 ∨ f = 3 ∨ f = 4 ∨ f = 5 ∨ f = 6 ∨ f = 7 ∨ f = 8 ∨ f = 9 ∨ f = 10 ∨ f = 11 ∨ f = 12 ∨ f = 13 := by omega
  all_goals
    simp only [loF, hiF] at h
    first
      | omega
      | (split at h <;> (try split at h) <;> omega)
theorem fieldB_len (v : V) (f : Nat) : (fieldB v f).length ≤ 2 := by
  unfold fieldB
  split <;> simp
theorem flatten_len (v : V) (sh : List Nat) : ((sh.map (fieldB v)).flatten).length ≤ 2 * sh.length := by
  induction sh with
  | nil => simp
  | cons f sh ih =>
    have := fieldB_len v f
    simp only [List.map_cons, List.flatten_cons, List.length_append, List.length_cons]
    omega
theorem layB_len (v : V) (k : Nat) : (layB v (shape k)).length ≤ 10000 := by
  have h1 := flatten_len v (shape k)
  have h2 := shape_len k
  unfold layB
  simp only [List.length_cons]
  omega

set_option maxHeartbeats 4000000 in
theorem enc_any (B : Nat) (m : GMsg) (w : World) (hG : Glb B w) (h1 : 1 ≤ m.kind) (h6 : m.kind ≤ 6) :
    Calls Tryz.prog 61 #[msgV m] w (EncPost w m) := by
  have Hf := Lib.hid fun w => flat_any m w
  obtain ⟨k, hk⟩ : ∃ k : Nat, m.kind = k := ⟨m.kind.toNat, by omega⟩
  obtain ⟨A, c, hsc, hrn, _⟩ := hG.shapes k (by omega)
  have hm : msgV m = .agg #[.int .i64 k, .int .i64 m.epoch, .int .i64 m.client, .int .i64 m.have_, .int .i64 m.first, .int .i64 m.num, .int .i64 m.ack, .int .i64 m.rev, .int .i64 m.tag, .int .i64 m.op.kind, .int .i64 m.op.pos, .int .u8 (m.op.ch.toNat : Int), .int .i64 m.op.client, .int .i64 m.op.seq] := by
    rw [← hk]
    rfl
  rw [hk] at h1 h6
  rw [hm] at Hf ⊢
  generalize hfv : flat m = fv at Hf
  generalize m.epoch = x1 at *
  generalize hx2 : m.client = x2 at *
  have HX2 := Lib.hid hx2
  clear hx2
  generalize m.have_ = x3 at *
  generalize m.first = x4 at *
  generalize m.num = x5 at *
  generalize m.ack = x6 at *
  generalize m.rev = x7 at *
  generalize m.tag = x8 at *
  generalize m.op.kind = x9 at *
  generalize m.op.pos = x10 at *
  generalize (m.op.ch.toNat : Int) = x11 at *
  generalize m.op.client = x12 at *
  generalize m.op.seq = x13 at *
  have HK := Lib.hid hk
  have HFV := Lib.hid hfv
  clear hk hm hfv
  have hk7 : (k : Int) < 7 := by omega
  have hd1 : decide ((k : Int) < 1) = false := by simp; omega
  have hd6 : decide (6 < (k : Int)) = false := by simp; omega
  have hlt0 : 0 < w.heap.size := lt_of_cell hsc
  go_enter Tryz.func61, Tryz.ntmps61
  go_wp2
  generalize hW : w.alloc (.cells #[.int .i64 k, .int .i64 x1, .int .i64 x2, .int .i64 x3, .int .i64 x4, .int .i64 x5, .int .i64 x6, .int .i64 x7, .int .i64 x8, .int .i64 x9, .int .i64 x10, .int .u8 x11, .int .i64 x12, .int .i64 x13] 28) = W
  have hbox : Blk W w.heap.size 28 #[.int .i64 k, .int .i64 x1, .int .i64 x2, .int .i64 x3, .int .i64 x4, .int .i64 x5, .int .i64 x6, .int .i64 x7, .int .i64 x8, .int .i64 x9, .int .i64 x10, .int .u8 x11, .int .i64 x12, .int .i64 x13] := by rw [← hW]; exact Blk.new _ _ _
  have hwW : Fr None' w W := by rw [← hW]; exact (Fr.refl _ _).alloc _
  have HW := Lib.hid hwW
  have HB := Lib.hid hbox
  have hrB : ∀ (x : Later W) i, x.w.cell? ⟨w.heap.size, i, none⟩ = (#[.int .i64 k, .int .i64 x1, .int .i64 x2, .int .i64 x3, .int .i64 x4, .int .i64 x5, .int .i64 x6, .int .i64 x7, .int .i64 x8, .int .i64 x9, .int .i64 x10, .int .u8 x11, .int .i64 x12, .int .i64 x13] : Array Value)[i]? := fun x => (hbox.fr x.fr fun h => h).cell
  have hrS : ∀ x : Later W, x.w.cell? ⟨0, k, none⟩ = some (.slice A (shape k).length c) := fun x => ((hwW.trans' x.fr).cell (p := ⟨0, k, none⟩) hlt0 fun h => h).trans hsc
  clear hW hwW hbox hsc
  refine wp_region_L (by kernel_rfl) ?_
  refine wpL_heads 1 0 8 (by kernel_rfl) (by kernel_rfl) ?_ (by kernel_rfl)
  simp only [List.take_succ_cons, List.take_zero, List.drop_zero]
  repeat (go_big_quiet_step (fail))
  refine wpQuiet_nil ?_
  refine wpL_call (by kernel_rfl) 1 18 rfl rfl (by kernel_rfl) rfl _ _ _ (by intro w; simp [go_sem]) (fun w' _ => Hf.out w') ?_
  simp only [List.set_cons_succ, List.set_cons_zero]
  refine wpL_heads 4 2 3 (by kernel_rfl) (by kernel_rfl) ?_ (by kernel_rfl)
  simp only [List.take_succ_cons, List.take_zero, List.drop_succ_cons, List.drop_zero]
  repeat (go_big_quiet_step (fail))
  refine wpQuiet_nil ?_
  clear hrB hrS
  refine wpL_step 6 rfl (by kernel_rfl) (fun w1 hw1 hw1' => ?_)
  have Hw1 := Lib.hid hw1
  clear hw1 hw1'
  go_wp2
  refine ⟨LC.mk (Hw1.out.alloc _), ?_⟩
  refine wpL_step 7 rfl (by kernel_rfl) (fun w2 hw2 hw2' => ?_)
  have hv0 := Blk.fr (Blk.new w1 _ _) hw2' (fun h => h)
  have hst := run_store_vals hv0 rfl fv
  have HV0 := Lib.hid hv0
  have Hw2 := Lib.hid hw2
  clear hw2 hw2' hv0
  go_wp2
  refine ⟨LC.mk (Hw2.out.setRow (.inl Hw1.out.size) _), ?_⟩
  have hv1 : Vals (w2.setRow w1.heap.size (vcells fv)) w1.heap.size fv := HV0.out.setRow _
  refine wpL_step 8 rfl (by kernel_rfl) (fun w3 hw3 hw3' => ?_)
  have HV3 := Lib.hid (hv1.fr hw3' (fun h => h))
  have Hw3 := Lib.hid hw3
  clear hw3 hw3' hv1 hst
  go_wp2
  refine ⟨LC.mk Hw3.out, wpL_done (by kernel_rfl) (fun w4 hw4 hw4' => ?_)⟩
  have HV := Lib.hid (HV3.out.fr hw4' (fun h => h))
  have HF := Lib.hid (HW.out.trans' hw4)
  have HX := Lib.hid (HB.out.fr hw4 fun h => h)
  have hgw : w.heap.size ≤ w1.heap.size := Nat.le_trans HW.out.size Hw1.out.size
  clear HV3 HV0 Hw2 Hw3 hw4 hw4' HB HW Hw1 Hf
  generalize w1.heap.size = g at *
  have hG4 := Lib.hid (hG.fr HF.out (fun _ h => h.elim))
  have hrn4 := Lib.hid (hrn.frn HF.out)
  have b0 := HX.out.cell 0
  have b2 := HX.out.cell 2
  clear hG hrn
  obtain ⟨mk, hmk⟩ : ∃ mk : Int, mk = if (k : Int) = 2 then x2 else 0 := ⟨_, rfl⟩
  have HMK := Lib.hid hmk
  clear hmk
  have hsh : ∀ f ∈ shape k, 1 ≤ f ∧ f < 14 := shape_mem k
  have H1 := Lib.hid h1
  have H6 := Lib.hid h6
  by_cases hk2 : k = 2
  · have hb : ((k : Int) == 2) = true := by rw [hk2]; rfl
    have HMKE : Hid ((if (k : Int) = 2 then m.client else 0) = x2) := by
      show (if (k : Int) = 2 then m.client else 0) = x2
      rw [if_pos (by omega)]
      exact HX2.out
    have HMK2 := Lib.hid (show x2 = 0 ∨ (x2 = fv 2 ∧ 2 ∈ shape k) from .inr ⟨by rw [← HFV.out]; exact HX2.out.symm, by rw [hk2]; decide⟩)
    clear HMK hk2
    go_wp2
    go_loop [7] (fun i => ∃ f : Nat, 1 ≤ f ∧ f ≤ 14 ∧ i = .int .i64 f ∧ ∀ j, 1 ≤ j → j < f → badF fv (shape k) x2 j = false) (fun i => 14 - (intOf i).toNat)
    case atStart => exact ⟨1, by omega, by omega, rfl, fun j h1 h2 => by omega⟩
    case round =>
      obtain ⟨f, hf1, hf2, rfl, hpre⟩ := hrel
      have HP := Lib.hid hpre
      clear hpre
      by_cases hlt : f < 14
      · have hn := named_any A (shape k).length c (shape k) f w4 hrn4.out (by have := shape_len k; omega)
        have hm := may_any g f fv x2 w4 HV.out hlt
        have hx := HV.out.at_ f hlt
        have hfi : (f : Int) < 14 := by omega
        have hbd : ∀ b1 b2 : Bool, namedB (shape k) f = b1 → mayB f fv x2 = b2 → badF fv (shape k) x2 f = ((b1 && !b2) || (!b1 && decide (fv f ≠ 0))) := fun b1 b2 h1 h2 => by unfold badF; rw [h1, h2]
        have HBD := Lib.hid hbd
        clear hbd
        have hgo : ∀ b, badF fv (shape k) x2 f = b → b = false → ∀ j, 1 ≤ j → j < f + 1 → badF fv (shape k) x2 j = false := fun b h1 h2 j hj1 hj2 => by
          by_cases hj : j = f
          · rw [hj, h1, h2]
          · exact HP.out j hj1 (by omega)
        have HGO := Lib.hid hgo
        clear hgo
        have hend : badF fv (shape k) x2 f = true → encF m = .error (63, (f : Int)) := fun hb => by
          unfold encF
          rw [if_neg (by have := HK.out; omega), HFV.out, HK.out, Int.toNat_natCast, HMKE.out, firstBad_some hf1 hlt hb HP.out]
        have HEND := Lib.hid hend
        clear hend
        cases hnv : namedB (shape k) f with
        | true =>
          rw [hnv] at hn
          cases hmv : mayB f fv x2 with
          | true =>
            rw [hmv] at hm
            have HN := Lib.hid (HGO.out _ (HBD.out _ _ hnv hmv) (by simp))
            have Hn := Lib.hid hn
            have Hm := Lib.hid hm
            clear hn hm hnv hmv hx
            go_wp2_with (first | (go_at_call 93; refine Hn.out.mono ?_; rintro e w' ⟨rfl, rfl⟩) | (go_at_call 94; refine Hm.out.mono ?_; rintro e w' ⟨rfl, rfl⟩))
            go_round
            case rel => exact ⟨f + 1, by omega, by omega, by go_num, HN.out⟩
            case measure => simp [intOf]; omega
          | false =>
            rw [hmv] at hm
            have HN := Lib.hid (HEND.out ((HBD.out _ _ hnv hmv).trans (by simp)))
            have Hn := Lib.hid hn
            have Hm := Lib.hid hm
            clear hn hm hnv hmv hx
            go_wp2_with (first | (go_at_call 93; refine Hn.out.mono ?_; rintro e w' ⟨rfl, rfl⟩) | (go_at_call 94; refine Hm.out.mono ?_; rintro e w' ⟨rfl, rfl⟩) | (go_at_call 62; refine (wrap_any _ _ _).mono ?_; rintro e w' ⟨rfl, hF, rfl⟩))
            go_ret2
            unfold EncPost
            rw [HN.out]
            exact ⟨_, rfl, hF, HF.out.alloc _⟩
        | false =>
          rw [hnv] at hn
          by_cases hz : fv f = 0
          · have HN := Lib.hid (HGO.out _ (HBD.out _ _ hnv rfl) (by simp [hz]))
            have hzb : (fv f != 0) = false := by simp [hz]
            have Hn := Lib.hid hn
            have HZ := Lib.hid hz
            clear hn hm hnv hz
            go_wp2_with (first | (go_at_call 93; refine Hn.out.mono ?_; rintro e w' ⟨rfl, rfl⟩))
            go_round
            case rel => exact ⟨f + 1, by omega, by omega, by go_num, HN.out⟩
            case measure => simp [intOf]; omega
          · have HN := Lib.hid (HEND.out ((HBD.out _ _ hnv rfl).trans (by simp [hz])))
            have hzb : (fv f != 0) = true := by simp [hz]
            have Hn := Lib.hid hn
            have HZ := Lib.hid hz
            clear hn hm hnv hz
            go_wp2_with (first | (go_at_call 93; refine Hn.out.mono ?_; rintro e w' ⟨rfl, rfl⟩) | (go_at_call 62; refine (wrap_any _ _ _).mono ?_; rintro e w' ⟨rfl, hF, rfl⟩))
            go_ret2
            unfold EncPost
            rw [HN.out]
            exact ⟨_, rfl, hF, HF.out.alloc _⟩
      · obtain rfl : f = 14 := by omega
        have hend : encF m = .ok (sealed (layB fv (shape k))) := by
          unfold encF
          rw [if_neg (by have := HK.out; omega), HFV.out, HK.out, Int.toNat_natCast, HMKE.out, firstBad_none HP.out]
        have HEND := Lib.hid hend
        have hpos : ∀ f ∈ shape k, 0 ≤ fv f ∧ fv f ≤ 65535 := fun f hf => named_pos HP.out (by first | exact HMK2.out | exact .inl rfl) f (hsh f hf) hf
        have h0 : fv 0 = (k : Int) := by rw [← HFV.out]; exact HK.out
        have Hl := Lib.hid (lay_any g fv A (shape k).length c (shape k) w4 hG4.out.size HV.out hrn4.out (fun f hf => (hsh f hf).2) hpos (by rw [h0]; omega) (by rw [h0]; omega) (by have := shape_len k; omega))
        clear hend hpos h0
        go_wp2_with (go_at_call 96; refine Hl.out.mono ?_; rintro e w5 ⟨r, rfl, hnb, hf5⟩)
        obtain ⟨gb, hgb, rfl, hrb⟩ := hnb.rb
        have Hs := Lib.hid (seal_any _ _ (layB fv (shape k)).length _ w5 (hG4.out.fr hf5 fun _ h => h.elim).tab hrb (layB_len fv k))
        have HF5 := Lib.hid hf5
        clear hrb hnb hf5
        go_wp2_with (go_at_call 95; refine Hs.out.mono ?_; rintro e w6 ⟨r, rfl, hnb, hf6⟩)
        go_ret2
        unfold EncPost
        rw [HEND.out]
        exact ⟨r, rfl, hnb.later (Nat.le_trans HF.out.size HF5.out.size), (HF.out.trans' HF5.out).trans' hf6⟩
  · have hb : ((k : Int) == 2) = false := by simp; omega
    have HMKE : Hid ((if (k : Int) = 2 then m.client else 0) = 0) := by
      show (if (k : Int) = 2 then m.client else 0) = 0
      rw [if_neg (by omega)]
    have HMK2 := Lib.hid (show (0 : Int) = 0 ∨ ((0 : Int) = fv 2 ∧ 2 ∈ shape k) from .inl rfl)
    clear HMK hk2
    go_wp2
    go_loop [7] (fun i => ∃ f : Nat, 1 ≤ f ∧ f ≤ 14 ∧ i = .int .i64 f ∧ ∀ j, 1 ≤ j → j < f → badF fv (shape k) 0 j = false) (fun i => 14 - (intOf i).toNat)
    case atStart => exact ⟨1, by omega, by omega, rfl, fun j h1 h2 => by omega⟩
    case round =>
      obtain ⟨f, hf1, hf2, rfl, hpre⟩ := hrel
      have HP := Lib.hid hpre
      clear hpre
      by_cases hlt : f < 14
      · have hn := named_any A (shape k).length c (shape k) f w4 hrn4.out (by have := shape_len k; omega)
        have hm := may_any g f fv 0 w4 HV.out hlt
        have hx := HV.out.at_ f hlt
        have hfi : (f : Int) < 14 := by omega
        have hbd : ∀ b1 b2 : Bool, namedB (shape k) f = b1 → mayB f fv 0 = b2 → badF fv (shape k) 0 f = ((b1 && !b2) || (!b1 && decide (fv f ≠ 0))) := fun b1 b2 h1 h2 => by unfold badF; rw [h1, h2]
        have HBD := Lib.hid hbd
        clear hbd
        have hgo : ∀ b, badF fv (shape k) 0 f = b → b = false → ∀ j, 1 ≤ j → j < f + 1 → badF fv (shape k) 0 j = false := fun b h1 h2 j hj1 hj2 => by
          by_cases hj : j = f
          · rw [hj, h1, h2]
          · exact HP.out j hj1 (by omega)
        have HGO := Lib.hid hgo
        clear hgo
        have hend : badF fv (shape k) 0 f = true → encF m = .error (63, (f : Int)) := fun hb => by
          unfold encF
          rw [if_neg (by have := HK.out; omega), HFV.out, HK.out, Int.toNat_natCast, HMKE.out, firstBad_some hf1 hlt hb HP.out]
        have HEND := Lib.hid hend
        clear hend
        cases hnv : namedB (shape k) f with
        | true =>
          rw [hnv] at hn
          cases hmv : mayB f fv 0 with
          | true =>
            rw [hmv] at hm
            have HN := Lib.hid (HGO.out _ (HBD.out _ _ hnv hmv) (by simp))
            have Hn := Lib.hid hn
            have Hm := Lib.hid hm
            clear hn hm hnv hmv hx
            go_wp2_with (first | (go_at_call 93; refine Hn.out.mono ?_; rintro e w' ⟨rfl, rfl⟩) | (go_at_call 94; refine Hm.out.mono ?_; rintro e w' ⟨rfl, rfl⟩))
            go_round
            case rel => exact ⟨f + 1, by omega, by omega, by go_num, HN.out⟩
            case measure => simp [intOf]; omega
          | false =>
            rw [hmv] at hm
            have HN := Lib.hid (HEND.out ((HBD.out _ _ hnv hmv).trans (by simp)))
            have Hn := Lib.hid hn
            have Hm := Lib.hid hm
            clear hn hm hnv hmv hx
            go_wp2_with (first | (go_at_call 93; refine Hn.out.mono ?_; rintro e w' ⟨rfl, rfl⟩) | (go_at_call 94; refine Hm.out.mono ?_; rintro e w' ⟨rfl, rfl⟩) | (go_at_call 62; refine (wrap_any _ _ _).mono ?_; rintro e w' ⟨rfl, hF, rfl⟩))
            go_ret2
            unfold EncPost
            rw [HN.out]
            exact ⟨_, rfl, hF, HF.out.alloc _⟩
        | false =>
          rw [hnv] at hn
          by_cases hz : fv f = 0
          · have HN := Lib.hid (HGO.out _ (HBD.out _ _ hnv rfl) (by simp [hz]))
            have hzb : (fv f != 0) = false := by simp [hz]
            have Hn := Lib.hid hn
            have HZ := Lib.hid hz
            clear hn hm hnv hz
            go_wp2_with (first | (go_at_call 93; refine Hn.out.mono ?_; rintro e w' ⟨rfl, rfl⟩))
            go_round
            case rel => exact ⟨f + 1, by omega, by omega, by go_num, HN.out⟩
            case measure => simp [intOf]; omega
          · have HN := Lib.hid (HEND.out ((HBD.out _ _ hnv rfl).trans (by simp [hz])))
            have hzb : (fv f != 0) = true := by simp [hz]
            have Hn := Lib.hid hn
            have HZ := Lib.hid hz
            clear hn hm hnv hz
            go_wp2_with (first | (go_at_call 93; refine Hn.out.mono ?_; rintro e w' ⟨rfl, rfl⟩) | (go_at_call 62; refine (wrap_any _ _ _).mono ?_; rintro e w' ⟨rfl, hF, rfl⟩))
            go_ret2
            unfold EncPost
            rw [HN.out]
            exact ⟨_, rfl, hF, HF.out.alloc _⟩
      · obtain rfl : f = 14 := by omega
        have hend : encF m = .ok (sealed (layB fv (shape k))) := by
          unfold encF
          rw [if_neg (by have := HK.out; omega), HFV.out, HK.out, Int.toNat_natCast, HMKE.out, firstBad_none HP.out]
        have HEND := Lib.hid hend
        have hpos : ∀ f ∈ shape k, 0 ≤ fv f ∧ fv f ≤ 65535 := fun f hf => named_pos HP.out (by first | exact HMK2.out | exact .inl rfl) f (hsh f hf) hf
        have h0 : fv 0 = (k : Int) := by rw [← HFV.out]; exact HK.out
        have Hl := Lib.hid (lay_any g fv A (shape k).length c (shape k) w4 hG4.out.size HV.out hrn4.out (fun f hf => (hsh f hf).2) hpos (by rw [h0]; omega) (by rw [h0]; omega) (by have := shape_len k; omega))
        clear hend hpos h0
        go_wp2_with (go_at_call 96; refine Hl.out.mono ?_; rintro e w5 ⟨r, rfl, hnb, hf5⟩)
        obtain ⟨gb, hgb, rfl, hrb⟩ := hnb.rb
        have Hs := Lib.hid (seal_any _ _ (layB fv (shape k)).length _ w5 (hG4.out.fr hf5 fun _ h => h.elim).tab hrb (layB_len fv k))
        have HF5 := Lib.hid hf5
        clear hrb hnb hf5
        go_wp2_with (go_at_call 95; refine Hs.out.mono ?_; rintro e w6 ⟨r, rfl, hnb, hf6⟩)
        go_ret2
        unfold EncPost
        rw [HEND.out]
        exact ⟨r, rfl, hnb.later (Nat.le_trans HF.out.size HF5.out.size), (HF.out.trans' HF5.out).trans' hf6⟩
end Go.Proofs.YtodkhoclbhdihaaGreatDoor

/-
  What the row's list of package-level variables gives: the tables of octet and wire, and the handle of the type 'error'.
-/
namespace Go.Proofs.YtodkhoclbhdihaaGreatDoor
open Go.ChangeShapes Go.WideShapes Go.RowKit

theorem gErr : Tryz.prog.globalNamed "errors.errorType" = some 2 := by kernel_rfl
theorem gTab : Tryz.prog.globalNamed "jotter/octet.table" = some 3 := by kernel_rfl
theorem gSize : Tryz.prog.globalNamed "jotter/wire.size" = some 1 := by kernel_rfl
theorem gShapes : Tryz.prog.globalNamed "jotter/wire.shapes" = some 0 := by kernel_rfl
theorem rtN : (Tryz.prog.cutTypes.find? (·.1 == "internal/reflectlite.rtype")).map (·.2) = some 234 := by kernel_rfl
theorem sizeN : Tryz.prog.types.size = 400 - 100 := by kernel_rfl
theorem oneRow : ((List.range (400 - 100)).filter fun t => Tryz.prog.rowNamed t [101, 114, 114, 111, 114]) = [80] := by kernel_rfl

theorem handle_of_laid {l : List (String × DataW Unit)} {W : World} (hl : ("errors.errorType", Rows.laid_errors_errorType) ∈ l) (h : handlesMet Tryz.prog l W) : ErrT W := by
  obtain ⟨name, u, ty, e1, e2, e3, e4, e5⟩ := h _ hl
  have en : name = [101, 114, 114, 111, 114] := (Option.some.inj e1).symm
  subst en
  obtain rfl := Option.some.inj (rtN.symm.trans e2)
  have hm : ty ∈ (List.range (400 - 100)).filter fun t => Tryz.prog.rowNamed t [101, 114, 114, 111, 114] := List.mem_filter.2 ⟨List.mem_range.2 (by rw [← sizeN]; exact e3), e4⟩
  rw [oneRow] at hm
  obtain rfl := List.mem_singleton.1 hm
  unfold ErrT
  have hth : typeHandle Tryz.prog 80 = .pointer (some ⟨4, 80, none⟩) := by kernel_rfl
  rw [hth] at e5
  have := World.var?_cell gErr e5 0
  simpa using this

theorem tTab : (Tryz.prog.globals[3]?).map (·.type) = some 261 := by kernel_rfl
theorem tSize : (Tryz.prog.globals[1]?).map (·.type) = some 138 := by kernel_rfl
theorem tShapes : (Tryz.prog.globals[0]?).map (·.type) = some 137 := by kernel_rfl
def sizeL : List Int := [1, 1, 1, 2, 1, 2, 2, 2, 2, 1, 2, 1, 1, 1]
def shapeD (k : Nat) : DataW Unit := .slice ((shape k).map fun z : Nat => .lit (.int .i64 (z : Int))) []
theorem addr0 {w : World} {a : Addr} {v : Value} (h : w.cell? a = some v) : a = ⟨a.block, a.off, none⟩ := by
  obtain ⟨b, o, s⟩ := a
  cases s with
  | none => rfl
  | some x =>
    unfold World.cell? at h
    split at h <;> simp at h
theorem shape_open {W : World} {fuel : Nat} {cs : List Value} {k : Nat} {p : List MemPlace} (hk : 0 < (shape k).length) (h : DataW.trod (fun _ => ()) Tryz.prog W 0 (fun _ => true) false fuel 22 cs = some (shapeD k, p)) :
    ∃ A c, cs = [.slice A (shape k).length c] ∧ RN W A (shape k).length (shape k) ∧ ∀ j, Foot A (shape k).length j → j < W.heap.size := by
  have c3 : Tryz.prog.cellsOf 3 = 1 := by kernel_rfl
  obtain ⟨a, cap, hcs, hle, hel⟩ := open_row Tryz.underlying22 c3 h
  rw [List.length_map] at hcs hle
  have hcell : ∀ i z, (shape k)[i]? = some z → W.cell? (a.add i) = some (nv z) := fun i z hz => by
    obtain ⟨v, n, q, hv, ht⟩ := hel i (.lit (.int .i64 (z : Int))) (by rw [List.getElem?_map, hz]; rfl)
    obtain ⟨y, hy1, hy2, _⟩ := DataW.trod_int Tryz.underlying3 ht
    simp only [Prod.mk.injEq, DataW.lit.injEq, Lit.int.injEq] at hy2
    rw [hv]
    simp only [List.cons.injEq, and_true] at hy1
    rw [hy1, ← hy2.1.2]
    rfl
  obtain ⟨z0, hz0⟩ : ∃ z, (shape k)[0]? = some z := ⟨_, List.getElem?_eq_getElem hk⟩
  have h0 := hcell 0 z0 hz0
  have e0 : a.add 0 = a := by simp [Addr.add]
  rw [e0] at h0
  have ha := addr0 h0
  have hb : a.block < W.heap.size := lt_of_cell h0
  refine ⟨some a, cap, hcs, ⟨by simp, fun _ => ⟨a.block, a.off, by rw [← ha], hb, fun j u hu => ?_⟩⟩, fun j hj => ?_⟩
  · rw [List.getElem?_map] at hu
    obtain ⟨z, hz, rfl⟩ := Option.map_eq_some_iff.1 hu
    have := hcell j z hz
    rw [ha] at this
    by_cases hj : j = 0
    · subst hj; simpa [Addr.add] using this
    · simpa [Addr.add, hj] using this
  · obtain ⟨_, a', e, rfl⟩ := hj
    cases e
    exact hb

/-- What each row lists. -/
def laidL : List (String × DataW Unit) := [("errors.errorType", Rows.laid_errors_errorType), ("jotter/octet.table", Rows.laid_jotter_octet_table), ("jotter/wire.size", Rows.laid_jotter_wire_size), ("jotter/wire.shapes", Rows.laid_jotter_wire_shapes)]
theorem glb_of_laid {W : World} (h : laidMetH Tryz.prog laidL W) : Glb W.heap.size W := by
  have h' : laidMet Tryz.prog [("jotter/octet.table", Rows.laid_jotter_octet_table), ("jotter/wire.size", Rows.laid_jotter_wire_size), ("jotter/wire.shapes", Rows.laid_jotter_wire_shapes)] W ∧ handlesMet Tryz.prog [("errors.errorType", Rows.laid_errors_errorType)] W := h
  obtain ⟨⟨ps, ⟨g1, t1, cs1, f1, p1, q1, hg1, ht1, hv1, hd1, ⟨g2, t2, cs2, f2, p2, q2, hg2, ht2, hv2, hd2, ⟨g3, t3, cs3, f3, p3, q3, hg3, ht3, hv3, hd3, _, _⟩, _⟩, _⟩, _, _⟩, hh⟩ := h'
  have hE := handle_of_laid (List.mem_singleton.2 rfl) hh
  obtain rfl := Option.some.inj (gTab.symm.trans hg1)
  obtain rfl := Option.some.inj (gSize.symm.trans hg2)
  obtain rfl := Option.some.inj (gShapes.symm.trans hg3)
  obtain rfl := Option.some.inj (tTab.symm.trans ht1)
  obtain rfl := Option.some.inj (tSize.symm.trans ht2)
  obtain rfl := Option.some.inj (tShapes.symm.trans ht3)
  have hc1 := Lib.cells_of_tab (k := .u32) (zs := tab.map fun x : Nat => (x : Int)) Tryz.underlying261 Tryz.underlying210 (by kernel_rfl) (by kernel_rfl) hd1
  have hc2 := Lib.cells_of_tab (k := .i64) (zs := sizeL) Tryz.underlying138 Tryz.underlying3 (by kernel_rfl) (by kernel_rfl) hd2
  have a1 : ∀ i, W.cell? ⟨3, i, none⟩ = cs1[i]? := World.var?_cell gTab hv1
  have a2 : ∀ i, W.cell? ⟨1, i, none⟩ = cs2[i]? := World.var?_cell gSize hv2
  have a3 : ∀ i, W.cell? ⟨0, i, none⟩ = cs3[i]? := World.var?_cell gShapes hv3
  have hT : Tab W := by
    have hcell : ∀ i, i < 16 → W.cell? ⟨3, i, none⟩ = some (.int .u32 ((tb i : Nat) : Int)) := fun i hi => by
      rw [a1, ← Array.getElem?_toList, hc1]
      match i, hi with
      | 0, _ | 1, _ | 2, _ | 3, _ | 4, _ | 5, _ | 6, _ | 7, _ | 8, _ | 9, _ | 10, _ | 11, _ | 12, _ | 13, _ | 14, _ | 15, _ => rfl
      | n + 16, h => exact absurd h (by omega)
    exact ⟨lt_of_cell (hcell 0 (by omega)), hcell⟩
  have hS : SizeG W := fun i hi => by
    rw [a2, ← Array.getElem?_toList, hc2]
    match i, hi with
    | 0, _ | 1, _ | 2, _ | 3, _ | 4, _ | 5, _ | 6, _ | 7, _ | 8, _ | 9, _ | 10, _ | 11, _ | 12, _ | 13, _ => rfl
  obtain ⟨xs, m1, rfl, hx1, hlen, hn3, hel⟩ := DataW.trod_array Tryz.underlying137 hd3
  have c43 : Tryz.prog.cellsOf 22 = 1 := by kernel_rfl
  rw [c43] at hel
  have hxs : xs.map (·.1) = [.nil, shapeD 1, shapeD 2, shapeD 3, shapeD 4, shapeD 5, shapeD 6] := by
    have := congrArg Prod.fst hx1
    simp only [Rows.laid_jotter_wire_shapes, DataW.agg.injEq] at this
    exact this.symm
  have hG : ShapeG W.heap.size W := fun k hk => by
    have hk' := hel k hk
    rw [Nat.mul_one] at hk'
    have hxk : (xs[k]?).map (·.1) = ([.nil, shapeD 1, shapeD 2, shapeD 3, shapeD 4, shapeD 5, shapeD 6] : List (DataW Unit))[k]? := by rw [← hxs, List.getElem?_map]
    have hcsk : ∀ v, (cs3.toList.drop k).take 1 = [v] → cs3[k]? = some v := fun v hv => by
      have := congrArg (·[0]?) hv
      simpa [List.getElem?_take, List.getElem?_drop] using this
    by_cases h0 : k = 0
    · subst h0
      cases hx : xs[0]? with
      | none => rw [hx] at hxk; cases hxk
      | some y =>
        obtain ⟨yd, yp⟩ := y
        rw [hx] at hxk hk'
        simp only [Option.map_some, List.getElem?_cons_zero, Option.some.injEq] at hxk
        subst hxk
        rcases DataW.trod_slice Tryz.underlying22 hk' with ⟨hcs, _⟩ | ⟨_, _, _, _, _, _, _, _, hx2, _⟩
        · exact ⟨none, 0, by rw [a3]; exact hcsk _ hcs, Reads.nil, fun j hj => absurd hj.1 (by decide)⟩
        · simp at hx2
    · cases hx : xs[k]? with
      | none =>
        rw [hx] at hxk
        rw [List.getElem?_eq_getElem (by simp; omega)] at hxk
        cases hxk
      | some y =>
        obtain ⟨yd, yp⟩ := y
        rw [hx] at hxk hk'
        have hyd : yd = shapeD k := by
          match k, hk, h0 with
          | 1, _, _ | 2, _, _ | 3, _, _ | 4, _, _ | 5, _, _ | 6, _, _ => exact Option.some.inj hxk
        subst hyd
        have hpos : 0 < (shape k).length := by
          match k, hk, h0 with
          | 1, _, _ | 2, _, _ | 3, _, _ | 4, _, _ | 5, _, _ | 6, _, _ => decide
        obtain ⟨A, c, h1, h2, h3⟩ := shape_open hpos hk'
        exact ⟨A, c, by rw [a3]; exact hcsk _ h1, h2, h3⟩
  have l1 := hT.1
  have l2 := lt_of_cell hE
  have l3 : 1 < W.heap.size := lt_of_cell (hS 0 (by omega))
  obtain ⟨_, _, h0, _⟩ := hG 0 (by omega)
  have l4 : 0 < W.heap.size := lt_of_cell h0
  dsimp only at l2
  exact ⟨hT, hE, hS, hG, by omega, Nat.le_refl _⟩
end Go.Proofs.YtodkhoclbhdihaaGreatDoor

/-
  A message and a way as arguments: what reading them says of their cells.
-/
namespace Go.Proofs.YtodkhoclbhdihaaGreatDoor
open Go.ChangeShapes Go.WideShapes Go.ChangeAt Go.RowKit

section
variable {H : Type} {enc : TypeId × Value → H} {W : World} {base : Nat} {sp : Nat → Bool} {held : Bool}
theorem cell_of {P : Program} {t : TypeId} {k : IntKind} {n : Nat} {cs : List Value} {i : Nat} {x : Option (DataW H × List MemPlace)} (ht : P.underlying t = some (.int k)) (hx : x.isSome = true) (h : DataW.trod enc P W base sp held n t ((cs.drop i).take 1) = x) :
    ∃ z, (cs.drop i).take 1 = [.int k z] ∧ x = some (.lit (.int k z), []) ∧ (Lit.int k z).wf = true := by
  obtain ⟨y, hy⟩ := Option.isSome_iff_exists.1 hx
  rw [hy] at h
  obtain ⟨z, h1, h2, h3⟩ := DataW.trod_int ht h
  exact ⟨z, h1, by rw [hy, h2], h3⟩
theorem drop_take {cs : List Value} {i : Nat} {v : Value} (h : (cs.drop i).take 1 = [v]) : cs[i]? = some v := by
  have := congrArg (·[0]?) h
  simpa [List.getElem?_take, List.getElem?_drop] using this

def i64D (z : Int) : DataW H := .lit (.int .i64 z)
def opD (o : GOp) : DataW H := .agg [i64D o.kind, i64D o.pos, .lit (.int .u8 (o.ch.toNat : Int)), i64D o.client, i64D o.seq]
def msgD (m : GMsg) : DataW H := .agg [i64D m.kind, i64D m.epoch, i64D m.client, i64D m.have_, i64D m.first, i64D m.num, i64D m.ack, i64D m.rev, i64D m.tag, opD m.op]
def wf64 (z : Int) : Prop := (Lit.int .i64 z).wf = true
structure OpOk (o : GOp) : Prop where
  k : wf64 o.kind
  p : wf64 o.pos
  c : wf64 o.client
  s : wf64 o.seq
structure MsgOk (m : GMsg) : Prop where
  a : wf64 m.kind ∧ wf64 m.epoch ∧ wf64 m.client ∧ wf64 m.have_ ∧ wf64 m.first ∧ wf64 m.num ∧ wf64 m.ack ∧ wf64 m.rev ∧ wf64 m.tag
  o : OpOk m.op
theorem u8_wf (u : UInt8) : (Lit.int .u8 (u.toNat : Int)).wf = true := by
  have := u.toNat_lt
  simp only [Lit.wf, Bool.and_eq_true, decide_eq_true_eq]
  exact ⟨by show (0 : Int) ≤ _; omega, by show _ ≤ (255 : Int); omega⟩
theorem shut_op (o : GOp) (h : OpOk o) (n : Nat) : DataW.trod enc Tryz.prog W base sp held (n + 2) 26 (opCells o) = some (opD o, []) := by
  obtain ⟨h1, h2, h3, h4⟩ := h
  unfold wf64 at *
  have h5 := u8_wf o.ch
  have := trod_struct_mk (enc := enc) (w := W) (base := base) (spare := sp) (held := held) (n := n + 1) (cs := opCells o) (xs := [(i64D o.kind, []), (i64D o.pos, []), (.lit (.int .u8 (o.ch.toNat : Int)), []), (i64D o.client, []), (i64D o.seq, [])]) Tryz.underlying26 (by kernel_rfl) (by
    simp [DataW.trod, opCells, i64D, Tryz.underlying3, Tryz.underlying5, h1, h2, h3, h4, h5, show Tryz.prog.cellsOf 3 = 1 by kernel_rfl, show Tryz.prog.cellsOf 5 = 1 by kernel_rfl])
  simpa [opD] using this
theorem shut_msg (m : GMsg) (h : MsgOk m) : DataW.Trod enc Tryz.prog W base sp held 28 (msgV m) (msgD m) [] := by
  obtain ⟨⟨h1, h2, h3, h4, h5, h6, h7, h8, h9⟩, ho⟩ := h
  unfold wf64 at *
  refine ⟨4, ?_⟩
  have hop := shut_op (enc := enc) (W := W) (base := base) (sp := sp) (held := held) m.op ho 1
  have := trod_struct_mk (enc := enc) (w := W) (base := base) (spare := sp) (held := held) (n := 3) (cs := msgCells m) (xs := [(i64D m.kind, []), (i64D m.epoch, []), (i64D m.client, []), (i64D m.have_, []), (i64D m.first, []), (i64D m.num, []), (i64D m.ack, []), (i64D m.rev, []), (i64D m.tag, []), (opD m.op, [])]) Tryz.underlying28 (by kernel_rfl) (by
    have ht : ((msgCells m).drop 9).take 5 = opCells m.op := rfl
    simp [ht, hop, show Tryz.prog.cellsOf 3 = 1 by kernel_rfl, show Tryz.prog.cellsOf 26 = 5 by kernel_rfl]
    simp [DataW.trod, msgCells, i64D, Tryz.underlying3, h1, h2, h3, h4, h5, h6, h7, h8, h9])
  simpa [msgD, msgV, Value.cells] using this
end
end Go.Proofs.YtodkhoclbhdihaaGreatDoor
