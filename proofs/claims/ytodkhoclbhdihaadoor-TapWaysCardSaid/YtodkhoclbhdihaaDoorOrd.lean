/-
  A region that draws its order, with calls that make memory in it: operations whose value is the same in every world of a class are taken first; the others come in whatever order is left, the memory growing between them. No program in it.
-/
import Derived.Test.YtodkhoclbhdihaaDoorTail
namespace Go.Proofs.YtodkhoclbhdihaaDoor

/-- The exits that are not allowed inside. -/
def NoExit : Exit → Act → World → Prop := fun _ _ _ => False

section
variable {P : Program} {md : Region.Mode} {ops : Array Oper} {Q : Exit → Act → World → Prop} {C : World → Prop} {St : World → World → Prop}

/-- Whatever order is picked from here on, and whatever the class's own steps do between. -/
def wpS (P : Program) (md : Region.Mode) (ops : Array Oper) (Q : Exit → Act → World → Prop) (C : World → Prop) (St : World → World → Prop) : Nat → Array Bool → Act → World → Prop
  | 0, listed, a, w => ∀ w', C w' → St w w' → Region.ready md ops listed = [] ∧ Q .normal a w'
  | f + 1, listed, a, w => ∀ w', C w' → St w w' → (Region.ready md ops listed = [] → Q .normal a w') ∧
      ∀ i ∈ Region.ready md ops listed, wpOp P ops NoExit i (fun a2 w2 => C w2 ∧ wpS P md ops Q C St f (listed.setIfInBounds i true) a2 w2) a w'

theorem wpS_later (ht : ∀ a b c, St a b → St b c → St a c) {f : Nat} {listed : Array Bool} {a : Act} {w w1 : World} (h : wpS P md ops Q C St f listed a w) (hs : St w w1) : wpS P md ops Q C St f listed a w1 := by
  cases f with
  | zero => exact fun w' hc hs' => h w' hc (ht _ _ _ hs hs')
  | succ f => exact fun w' hc hs' => h w' hc (ht _ _ _ hs hs')

theorem wpOp_exits {i : Nat} {K : Act → World → Prop} {a : Act} {w : World} (h : wpOp P ops NoExit i K a w) : wpOp P ops Q i K a w := by
  unfold wpOp at *
  split
  · rename_i ho; simp only [ho] at h; exact h
  · rename_i o ho
    simp only [ho] at h
    split
    · rename_i hw
      simp only [hw, if_true] at h
      rcases h with h | ⟨_, _, _, h⟩
      · refine .inl ?_
        unfold Oper.wp at *
        generalize (execOp a.eval o).run P w = r at *
        cases r with
        | ok n w' =>
          cases n <;> simp only [Oper.upon] at h ⊢ <;> try exact h
          exact Calls.mono h fun e w'' he => by
            cases e with
            | returned u => exact he
            | panicked c => exact (he : False).elim
            | outgrown => obtain ⟨_, _, h⟩ := he; exact (h : False).elim
        | halt x w' =>
          cases x <;> simp only [Oper.upon] at h ⊢
          exact (h : False).elim
      · exact (h : False).elim
    · rename_i hw
      simp only [hw] at h
      exact h

theorem wpAny_of_S (hr : ∀ a, St a a) : ∀ (f : Nat) (listed : Array Bool) (a : Act) (w : World), C w → wpS P md ops Q C St f listed a w → wpAny P md ops Q f listed a w
  | 0, _, _, w, hc, h => h w hc (hr w)
  | f + 1, _, _, w, hc, h => ⟨(h w hc (hr w)).1, fun i hi => wpOp_mono (fun a2 w2 h2 => wpAny_of_S hr f _ a2 w2 h2.1 h2.2) (wpOp_exits ((h w hc (hr w)).2 i hi))⟩

/-- In every world of the class operation o leaves v, and a world of the class that is a step of it. -/
def YieldsS (P : Program) (ops : Array Oper) (C : World → Prop) (St : World → World → Prop) (o : Oper) (v : Value) (a : Act) : Prop :=
  (Region.wanted o (yielded ops a.tmps) = true ∧ ∀ w, C w → o.quietAt P a (fun w' => C w' ∧ St w w') w v) ∨
  (Region.wanted o (yielded ops a.tmps) = false ∧ v = undef)

theorem YieldsS.of_same {o : Oper} {v : Value} {a a' : Act} (hy : YieldsS P ops C St o v a) (he : execOp a'.eval o = execOp a.eval o)
    (hw : Region.wanted o (yielded ops a'.tmps) = Region.wanted o (yielded ops a.tmps)) : YieldsS P ops C St o v a' := by
  unfold YieldsS Oper.quietAt at *
  rw [he, hw]
  exact hy

theorem YieldsS.wpOp (hr : ∀ a, St a a) {i : Nat} {o : Oper} {v : Value} {a : Act} (hi : ops[i]? = some o) (hy : YieldsS P ops C St o v a) {K : Act → World → Prop} {w : World} (hc : C w) (h : ∀ w', C w' → St w w' → K (a.put o.dst v) w') : wpOp P ops NoExit i K a w := by
  unfold Go.wpOp
  simp only [hi]
  rcases hy with ⟨hw, hv⟩ | ⟨hw, rfl⟩
  · simp only [hw, if_true]
    refine .inl ?_
    have h3 := hv w hc
    unfold Oper.quietAt at h3
    unfold Oper.wp
    generalize (execOp a.eval o).run P w = r at *
    match r, h3 with
    | .ok (.value u) w', ⟨h1, h2⟩ => subst h1 h2; exact h _ hc (hr _)
    | .ok .skip w', ⟨h1, h2⟩ => subst h1 h2; exact h _ hc (hr _)
    | .ok (.enter f args) w', ⟨h1, h2⟩ =>
      subst h1
      exact Calls.mono h2 fun e w'' ⟨he, h4, h5⟩ => by subst he; exact h _ h4 h5
  · simp only [hw, Bool.false_eq_true, if_false]
    exact h _ hc (hr _)

theorem wpOp_putS {j : Nat} {oi oj : Oper} {v : Value} (hj : ops[j]? = some oj) (hap : oi.apart ops oj = true)
    (hsi : ∀ cs b, oi.op ≠ .select cs b) (hsj : ∀ cs b, oj.op ≠ .select cs b) {K : Act → World → Prop} {a : Act} {w : World}
    (hy : YieldsS P ops C St oi v a) (h : wpOp P ops NoExit j K (a.put oi.dst v) w) :
    wpOp P ops NoExit j (fun a' w' => YieldsS P ops C St oi v a' ∧ K (a'.put oi.dst v) w') a w := by
  obtain ⟨h1, h2, h3⟩ := Oper.apart_spec hap
  have keep : ∀ (a : Act), YieldsS P ops C St oi v a → ∀ u, YieldsS P ops C St oi v (a.put oj.dst u) := fun a hy u =>
    hy.of_same (execOp_put oi hsi a oj.dst u h3) (wanted_put oi a oj.dst u h3)
  have keepD : ∀ d, YieldsS P ops C St oi v { a with defers := d :: a.defers } := fun d => hy.of_same rfl rfl
  unfold wpOp at *
  simp only [hj] at *
  rw [wanted_put oj a oi.dst v h1] at h
  split
  · rename_i hw
    simp only [hw, if_true] at h
    rcases h with h | ⟨_, _, _, hlets⟩
    case inr => exact (hlets : False).elim
    refine .inl ?_
    unfold Oper.wp at *
    rw [execOp_put oj hsj a oi.dst v h1] at h
    generalize (execOp a.eval oj).run P w = r at *
    cases r with
    | ok n w' =>
      cases n <;> simp only [Oper.upon] at h ⊢
      case value u => exact ⟨keep a hy u, by rw [← Act.put_comm a v u h2]; exact h⟩
      case skip => exact ⟨keep a hy _, by rw [← Act.put_comm a v undef h2]; exact h⟩
      case defer d =>
        refine ⟨keep _ (keepD d) _, ?_⟩
        rw [← Act.put_comm _ v undef h2, ← Act.put_defers]
        exact h
      case enter f args =>
        refine Calls.mono h fun e w'' he => ?_
        cases e with
        | returned u => exact ⟨keep a hy u, by rw [← Act.put_comm a v u h2]; exact he⟩
        | panicked c => exact he
        | outgrown => exact he
      case row row args => exact Rows.mono h fun u w'' he => ⟨keep a hy u, by rw [← Act.put_comm a v u h2]; exact he⟩
    | halt x w' =>
      cases x <;> simp only [Oper.upon] at h ⊢
      case panic u => exact h
  · rename_i hw
    simp only [hw] at h
    exact ⟨keep a hy _, by rw [← Act.put_comm a v undef h2]; exact h⟩

/-- **An operation that yields in every world of the class may be taken first.** -/
theorem wpS_first (hr : ∀ a, St a a) (ht : ∀ a b c, St a b → St b c → St a c) {i : Nat} {oi : Oper} {v : Value} (hi : ops[i]? = some oi) (hsel : ∀ (j : Nat) (o : Oper) cs b, ops[j]? = some o → o.op ≠ .select cs b) :
    ∀ (fuel : Nat) (listed : Array Bool) (a : Act) (w : World),
      (∀ j oj, ops[j]? = some oj → j ≠ i → listed.getD j true = false → (∀ e ∈ oj.after, Region.binds md e = true → e.on ≠ i) → oi.apart ops oj = true) →
      i ∈ Region.ready md ops listed → YieldsS P ops C St oi v a →
      wpS P md ops Q C St fuel (listed.setIfInBounds i true) (a.put oi.dst v) w → wpS P md ops Q C St (fuel + 1) listed a w := by
  intro fuel
  induction fuel with
  | zero =>
    intro listed a w _ hrd hy H w' hc hs
    refine ⟨fun h => (by rw [h] at hrd; cases hrd), fun j hj => ?_⟩
    by_cases hji : j = i
    · subst hji
      exact hy.wpOp hr hi hc fun w2 h2 h3 => ⟨h2, wpS_later ht H (ht _ _ _ hs h3)⟩
    · have := ready_mono hj hji
      rw [(H w' hc hs).1] at this
      cases this
  | succ fuel ih =>
    intro listed a w hfree hrd hy H w' hc hs
    refine ⟨fun h => (by rw [h] at hrd; cases hrd), fun j hj => ?_⟩
    by_cases hji : j = i
    · subst hji
      exact hy.wpOp hr hi hc fun w2 h2 h3 => ⟨h2, wpS_later ht H (ht _ _ _ hs h3)⟩
    · have h1 := (H w' hc hs).2 j (ready_mono hj hji)
      obtain ⟨hjun, oj, hoj, hall⟩ := mem_ready.1 hj
      have hnot : ∀ e ∈ oj.after, Region.binds md e = true → e.on ≠ i := fun e he hb heq => by
        have h1 := hall e he hb
        have h0 := (mem_ready.1 hrd).1
        rw [heq] at h1
        rcases Nat.lt_or_ge i listed.size with h' | h'
        · simp [h'] at h0 h1; rw [h0] at h1; cases h1
        · simp [Array.getElem?_eq_none h'] at h1
      have h2 := wpOp_putS hoj (hfree j oj hoj hji hjun hnot) (fun cs b => hsel i oi cs b hi) (fun cs b => hsel j oj cs b hoj) hy h1
      have hfree' : ∀ k ok, ops[k]? = some ok → k ≠ i → (listed.setIfInBounds j true).getD k true = false →
          (∀ e ∈ ok.after, Region.binds md e = true → e.on ≠ i) → oi.apart ops ok = true := fun k ok hk hki hun hno => by
        refine hfree k ok hk hki ?_ hno
        by_cases hjk : j = k
        · subst hjk; exact hjun
        · rw [getD_set_ne true hjk] at hun; exact hun
      refine wpOp_mono (fun a' w' h3 => ⟨h3.2.1, ih (listed.setIfInBounds j true) a' w' hfree' (ready_mono hrd (Ne.symm hji)) h3.1 ?_⟩) h2
      rw [Array.setIfInBounds_comm _ _ hji]
      exact h3.2.2

/-! ### how it is used -/
/-- A piece of a list of operations, taken first one after the other. -/
def headsB (md : Region.Mode) (ops : Array Oper) : Nat → Nat → Array Bool → Bool
  | _, 0, _ => true
  | k, n + 1, listed => (Region.ready md ops listed).contains k && Region.free md ops listed k && headsB md ops (k + 1) n (listed.setIfInBounds k true)
def listedAfter : Nat → Nat → Array Bool → Array Bool
  | _, 0, listed => listed
  | k, n + 1, listed => listedAfter (k + 1) n (listed.setIfInBounds k true)
/-- No call of a Go function. -/
def noCallB (o : Oper) : Bool := match o.op with | .call { callee := .builtin _, .. } => true | .call _ => false | _ => true

theorem yieldsS_of_quiet {o : Oper} {a : Act} {v : Value} (hn : ∀ w w' f args, (execOp a.eval o).run P w ≠ .ok (.enter f args) w') (h : ∀ w, C w → o.quietAt P a C w v) : ∀ w, C w → o.quietAt P a (fun w' => C w' ∧ St w w') w v := by
  intro w hc
  have h3 := h w hc
  have h4 := hn w
  unfold Oper.quietAt at *
  generalize (execOp a.eval o).run P w = r at *
  match r, h3 with
  | .ok (.value u) w', h => exact h
  | .ok .skip w', h => exact h
  | .ok (.enter f args) w', _ => exact absurd rfl (h4 w' f args)

/-- Taken first: a piece of the text that only reads. -/
theorem wpS_heads {l : List Oper} (hr : ∀ a, St a a) (ht : ∀ a b c, St a b → St b c → St a c) (hsel : Region.noSelect l.toArray = true) :
    ∀ (n k f : Nat) (listed : Array Bool) (a : Act) (w : World), headsB md l.toArray k n listed = true →
      wpQuiet P l.toArray (fun w' => C w') (fun a' => wpS P md l.toArray Q C St f (listedAfter k n listed) a' w) ((l.drop k).take n) a →
      (∀ o ∈ (l.drop k).take n, ∀ a w w' f args, (execOp (Act.eval a) o).run P w ≠ .ok (.enter f args) w') →
      wpS P md l.toArray Q C St (f + n) listed a w
  | 0, _, _, _, _, _, _, h, _ => by simpa [wpQuiet, listedAfter] using h
  | n + 1, k, f, listed, a, w, hB, h, hn => by
    simp only [headsB, Bool.and_eq_true] at hB
    obtain ⟨⟨hrd, hfr⟩, hB⟩ := hB
    rw [List.contains_iff_mem] at hrd
    have hrd' := hrd
    rw [mem_ready] at hrd
    obtain ⟨_, o, ho, _⟩ := hrd
    have hk : k < l.length := by
      have := (Array.getElem?_eq_some_iff.1 ho).1
      simpa using this
    have hl : (l.drop k).take (n + 1) = o :: (l.drop (k + 1)).take n := by
      rw [List.drop_eq_getElem_cons hk, List.take_succ_cons]
      simp at ho
      rw [List.getElem?_eq_getElem hk] at ho
      cases ho
      rfl
    rw [hl] at h hn
    unfold wpQuiet at h
    have hfree := Region.free_spec ho hfr
    by_cases hw : Region.wanted o (yielded l.toArray a.tmps) = true
    · rw [if_pos hw] at h
      obtain ⟨v, hv, hk2⟩ := h
      refine wpS_first hr ht ho (Region.noSelect_spec hsel) (f + n) listed a w (fun j oj hj hne hun hno => hfree j oj hj hne hun hno) hrd' (.inl ⟨hw, yieldsS_of_quiet (fun w w' f args => hn o (by simp) a w w' f args) hv⟩) ?_
      exact wpS_heads hr ht hsel n (k + 1) f _ _ w hB hk2 fun o' ho' => hn o' (by simp [ho'])
    · rw [if_neg hw] at h
      refine wpS_first hr ht ho (Region.noSelect_spec hsel) (f + n) listed a w (fun j oj hj hne hun hno => hfree j oj hj hne hun hno) hrd' (.inr ⟨by simpa using hw, rfl⟩) ?_
      exact wpS_heads hr ht hsel n (k + 1) f _ _ w hB h fun o' ho' => hn o' (by simp [ho'])

/-- Taken first: a call whose value is the same in every world of the class. -/
theorem wpS_call (hr : ∀ a, St a a) (ht : ∀ a b c, St a b → St b c → St a c) (hsel : Region.noSelect ops = true) (i : Nat) {o : Oper} (ho : ops[i]? = some o) {f : Nat} {listed : Array Bool} {a : Act} {w : World}
    (hB : headsB md ops i 1 listed = true) (hg : o.guard = none) (fn : FuncId) (args : Array Value) (v : Value)
    (hx : ∀ w, (execOp a.eval o).run P w = .ok (.enter fn args) w)
    (hc : ∀ w', C w' → Calls P fn args w' fun e w2 => e = .returned v ∧ C w2 ∧ St w' w2)
    (h : wpS P md ops Q C St f (listed.setIfInBounds i true) (a.put o.dst v) w) : wpS P md ops Q C St (f + 1) listed a w := by
  simp only [headsB, Bool.and_eq_true] at hB
  obtain ⟨⟨hrd, hfr⟩, _⟩ := hB
  rw [List.contains_iff_mem] at hrd
  refine wpS_first hr ht ho (Region.noSelect_spec hsel) f listed a w (Region.free_spec ho hfr) hrd (.inl ⟨by simp [Region.wanted, hg], fun w' hw' => ?_⟩) h
  unfold Oper.quietAt
  rw [hx]
  exact ⟨rfl, hc w' hw'⟩

/-- What is to be shown behind one operation. -/
def Then (K : Act → World → Prop) : Exit → Act → World → Prop
  | .normal, a, w => K a w
  | _, _, _ => False
theorem wpOp_of_list {k : Nat} {o : Oper} (ho : ops[k]? = some o) {K : Act → World → Prop} {a : Act} {w : World} (h : wpList P ops (Then K) [o] a w) : wpOp P ops NoExit k K a w := by
  unfold wpOp
  simp only [ho]
  unfold wpList at h
  split
  · rename_i hw
    rw [if_pos hw] at h
    rcases h with h | ⟨_, _, _, hl⟩
    · refine .inl ?_
      unfold Oper.wp at *
      generalize (execOp a.eval o).run P w = r at *
      cases r with
      | ok n w' =>
        cases n <;> simp only [Oper.upon] at h ⊢ <;> (try exact h)
      | halt x w' =>
        cases x <;> simp only [Oper.upon] at h ⊢
        all_goals exact (h : False).elim
    · exact (hl : False).elim
  · rename_i hw
    rw [if_neg hw] at h
    exact h
/-- One operation alone may come up now. -/
theorem wpS_step (k : Nat) {o : Oper} (ho : ops[k]? = some o) {f : Nat} {listed : Array Bool} {a : Act} {w : World} (hrd : Region.ready md ops listed = [k])
    (h : ∀ w', C w' → St w w' → wpList P ops (Then fun a2 w2 => C w2 ∧ wpS P md ops Q C St f (listed.setIfInBounds k true) a2 w2) [o] a w') : wpS P md ops Q C St (f + 1) listed a w := by
  intro w' hc hs
  refine ⟨fun h0 => (by rw [h0] at hrd; cases hrd), fun i hi => ?_⟩
  rw [hrd] at hi
  obtain rfl : i = k := by simpa using hi
  exact wpOp_of_list ho (h w' hc hs)
theorem wpS_done {f : Nat} {listed : Array Bool} {a : Act} {w : World} (hrd : Region.ready md ops listed = []) (h : ∀ w', C w' → St w w' → Q .normal a w') : wpS P md ops Q C St f listed a w := by
  cases f with
  | zero => exact fun w' hc hs => ⟨hrd, h w' hc hs⟩
  | succ f => exact fun w' hc hs => ⟨fun _ => h w' hc hs, fun i hi => by rw [hrd] at hi; cases hi⟩
theorem wp_region_S {id : Nat} {a : Act} {w : World} {l : List Oper} (C : World → Prop) (St : World → World → Prop) (hr : ∀ a, St a a) (hm : P.follows .mixedOrders = true) (hC : C w.drew)
    (h : wpS P .any l.toArray Q C St l.toArray.size (Array.replicate l.toArray.size false) a w.drew) : (Code.region id l.toArray true).wp P Q a w :=
  wp_region_any hm (wpAny_of_S hr _ _ _ _ hC h)

end
/-- Operations that call no Go function, whatever they find. -/
def plainB (o : Oper) : Bool :=
  match o.op with
  | .move _ | .assign _ | .pick .. | .load .. | .fieldAddr .. | .field .. | .indexAddr .. | .index .. | .lookup .. | .makeInterface .. | .extract .. | .convert .. | .binOp .. | .unOp .. | .slice .. | .nilCheck _ | .typeAssert .. | .build .. => true
  | .call { callee := .builtin .len, .. } | .call { callee := .builtin .cap, .. } => true
  | _ => false
theorem run_b {P : Program} {α : Type} (s : Sem α) (k : α → Sem Next) (w w' : World) (f : FuncId) (args : Array Value) (h : ∀ a w, (k a).run P w ≠ .ok (.enter f args) w') : (s >>= k).run P w ≠ .ok (.enter f args) w' := by
  rw [Sem.run_bind]
  cases s.run P w with
  | ok x w1 => exact h x w1
  | halt x w1 => intro h; cases h
theorem run_v {P : Program} (s : Sem Value) (w w' : World) (f : FuncId) (args : Array Value) : ((do let x ← s; pure (Next.value x)) : Sem Next).run P w ≠ .ok (.enter f args) w' := by
  rw [Sem.run_bind]
  cases s.run P w with
  | ok x w1 => intro h; cases h
  | halt x w1 => intro h; cases h
theorem plain_run {P : Program} {o : Oper} (h : plainB o = true) (ρ : Operand → Value) (w w' : World) (f : FuncId) (args : Array Value) : (execOp ρ o).run P w ≠ .ok (.enter f args) w' := by
  obtain ⟨dst, op, ty, pos, after, g⟩ := o
  cases op with
  | move x => intro h; cases h
  | assign x => intro h; cases h
  | pick c a b =>
    simp only [execOp]
    rw [Sem.run_bind]
    cases (asBool (ρ c)).run P w with
    | ok x w1 => intro h; cases h
    | halt x w1 => intro h; cases h
  | nilCheck x =>
    simp only [execOp]
    split
    all_goals try (intro h; cases h; done)
    split
    all_goals try (intro h; cases h; done)
    refine run_b _ _ _ _ _ _ fun pr w1 => run_b _ _ _ _ _ _ fun b w2 => ?_
    split
    · refine run_b _ _ _ _ _ _ fun _ w3 => ?_
      intro h; cases h
    · intro h; cases h
  | call c =>
    obtain ⟨callee, as, ats⟩ := c
    cases callee with
    | builtin b =>
      cases b <;> simp [plainB] at h
      all_goals
        rw [BigFrame.execOp_builtin]
        exact run_v _ _ _ _ _
    | _ => simp [plainB] at h
  | _ =>
    first
      | (simp [plainB] at h; done)
      | exact run_v _ _ _ _ _

theorem Fr.tr {S : Nat → Prop} : ∀ a b c : World, Fr S a b → Fr S b c → Fr S a c := fun _ _ _ h k => h.trans' k
/-- A world that W may have grown to. -/
structure Later (W : World) where
  w : World
  fr : Fr None' W w
instance later_nonempty (W : World) : Nonempty (Later W) := ⟨⟨W, Fr.refl _ _⟩⟩
def LC (W : World) : World → Prop := fun w' => ∃ x : Later W, w' = x.w
theorem LC.mk {W w' : World} (h : Fr None' W w') : LC W w' := ⟨⟨w', h⟩, rfl⟩
theorem LC.fr {W w' : World} (h : LC W w') : Fr None' W w' := by
  obtain ⟨x, rfl⟩ := h
  exact x.fr
section
variable {P : Program} {ops : Array Oper} {Q : Exit → Act → World → Prop} {W : World}
/-- The same over worlds that have grown. -/
abbrev wpL (P : Program) (ops : Array Oper) (Q : Exit → Act → World → Prop) (W : World) : Nat → Array Bool → Act → World → Prop := wpS P .any ops Q (LC W) (Fr None')
theorem wp_region_L {id : Nat} {a : Act} {w : World} {l : List Oper} (hm : P.follows .mixedOrders = true)
    (h : wpL P l.toArray Q w l.toArray.size (Array.replicate l.toArray.size false) a w.drew) : (Code.region id l.toArray true).wp P Q a w :=
  wp_region_S (LC w) (Fr None') (Fr.refl _) hm (LC.mk (Fr.refl _ _).drew) h
theorem wpL_heads {l : List Oper} (n k f : Nat) {listed : Array Bool} {a : Act} {w : World} (hsel : Region.noSelect l.toArray = true) (hB : headsB .any l.toArray k n listed = true)
    (h : wpQuiet P l.toArray (fun w' => ∃ x : Later W, w' = x.w) (fun a' => wpL P l.toArray Q W f (listedAfter k n listed) a' w) ((l.drop k).take n) a)
    (hn : ((l.drop k).take n).all plainB = true) : wpL P l.toArray Q W (f + n) listed a w :=
  wpS_heads (Fr.refl _) Fr.tr hsel n k f listed a w hB h fun o ho _ w w' f args => plain_run (List.all_eq_true.1 hn o ho) _ w w' f args
theorem wpL_call (hsel : Region.noSelect ops = true) (i d : Nat) {o : Oper} (ho : ops[i]? = some o) (hd : o.dst = some d) {f : Nat} {listed : Array Bool} {tl : List Value} {ds : List Deferred} {w : World}
    (hB : headsB .any ops i 1 listed = true) (hg : o.guard = none) (fn : FuncId) (args : Array Value) (v : Value)
    (hx : ∀ w, (execOp (Act.eval ⟨tl.toArray, ds⟩) o).run P w = .ok (.enter fn args) w)
    (hc : ∀ w', Fr None' W w' → Calls P fn args w' fun e w2 => e = .returned v ∧ Fr None' w' w2)
    (h : wpL P ops Q W f (listed.setIfInBounds i true) ⟨(tl.set d v).toArray, ds⟩ w) : wpL P ops Q W (f + 1) listed ⟨tl.toArray, ds⟩ w :=
  wpS_call (Fr.refl _) Fr.tr hsel i ho hB hg fn args v hx (fun w' hw' => (hc w' hw'.fr).mono fun _ _ ⟨h1, h2⟩ => ⟨h1, LC.mk (hw'.fr.trans' h2), h2⟩) (by
    rw [hd]
    simpa [Act.put] using h)
theorem wpL_step (k : Nat) {o : Oper} (ho : ops[k]? = some o) {f : Nat} {listed : Array Bool} {a : Act} {w : World} (hrd : Region.ready .any ops listed = [k])
    (h : ∀ w', Fr None' W w' → Fr None' w w' → wpList P ops (Then fun a2 w2 => LC W w2 ∧ wpL P ops Q W f (listed.setIfInBounds k true) a2 w2) [o] a w') : wpL P ops Q W (f + 1) listed a w :=
  wpS_step k ho hrd fun w' h1 h2 => h w' h1.fr h2
theorem wpL_done {f : Nat} {listed : Array Bool} {a : Act} {w : World} (hrd : Region.ready .any ops listed = []) (h : ∀ w', Fr None' W w' → Fr None' w w' → Q .normal a w') : wpL P ops Q W f listed a w :=
  wpS_done hrd fun w' h1 h2 => h w' h1.fr h2
end
end Go.Proofs.YtodkhoclbhdihaaDoor
