/-
  Plain laws of a tap: what it knows is a set of items; an item is taken if it goes with all that is known. No memory and no program in it.
-/
import Derived.Test.YtodkhoclbhdihaaGreatDoorZ11
import Derived.Test.YtodkhoclbhdihaaGreatDoorZ9
import Derived.Test.YtodkhoclbhdihaaGreatDoorZ3
import Derived.Test.YtodkhoclbhdihaaGreatDoorZ4
namespace Go.Proofs.YtodkhoclbhdihaaGreatDoor

inductive Item where
  | rc (rev : Int) (o : GOp)
  | ed (e : GEdit)
def goes : Item → Item → Prop
  | .rc r o, .rc r' o' => (r = r' → o = o') ∧ (nameOf o = nameOf o' → r = r')
  | .rc _ o, .ed e => nameOf o = nameOf e.op → togetherB o e.op = true
  | .ed e, .rc _ o => nameOf o = nameOf e.op → togetherB o e.op = true
  | .ed e, .ed e' => nameOf e.op = nameOf e'.op → e = e'
theorem goes_symm {x y : Item} (h : goes x y) : goes y x := by
  cases x <;> cases y <;> simp only [goes] at h ⊢
  · exact ⟨fun e => (h.1 e.symm).symm, fun e => (h.2 e.symm).symm⟩
  · exact h
  · exact h
  · exact fun e => (h e.symm).symm
theorem goes_self (x : Item) : goes x x := by
  cases x
  · exact ⟨fun _ => rfl, fun _ => rfl⟩
  · exact fun _ => rfl
/-- The tap knows just the items of S. -/
structure Knows (T : GTap) (S : Item → Prop) : Prop where
  recs : ∀ r o, get T.records r = some o ↔ S (.rc r o)
  revs : ∀ n r, get T.revs n = some r ↔ ∃ o, S (.rc r o) ∧ nameOf o = n
  eds : ∀ n e, get T.edits n = some e ↔ S (.ed e) ∧ nameOf e.op = n
  all : ∀ x y, S x → S y → goes x y
theorem fitsRec_iff {T : GTap} {S : Item → Prop} (h : Knows T S) (r : Int) (o : GOp) : fitsRec T r o = true ↔ ∀ x, S x → goes (.rc r o) x := by
  unfold fitsRec
  simp only [Bool.and_eq_true]
  constructor
  · rintro ⟨⟨h1, h2⟩, h3⟩ x hx
    cases x with
    | rc r' o' =>
      refine ⟨fun e => ?_, fun e => ?_⟩
      · subst e
        rw [(h.recs r o').2 hx] at h1
        simpa using (of_decide_eq_true h1).symm
      · rw [(h.revs (nameOf o) r').2 ⟨o', hx, e.symm⟩] at h2
        simpa using (of_decide_eq_true h2).symm
    | ed e =>
      intro hn
      rw [(h.eds (nameOf o) e).2 ⟨hx, hn.symm⟩] at h3
      exact h3
  · intro ha
    refine ⟨⟨?_, ?_⟩, ?_⟩
    · cases hg : get T.records r with
      | none => rfl
      | some o' => exact decide_eq_true ((ha _ ((h.recs r o').1 hg)).1 rfl).symm
    · cases hg : get T.revs (nameOf o) with
      | none => rfl
      | some r' =>
        obtain ⟨o', ho, hn⟩ := (h.revs _ r').1 hg
        exact decide_eq_true ((ha _ ho).2 hn.symm).symm
    · cases hg : get T.edits (nameOf o) with
      | none => rfl
      | some e =>
        obtain ⟨he, hn⟩ := (h.eds _ e).1 hg
        exact ha _ he hn.symm
theorem fitsEd_iff {T : GTap} {S : Item → Prop} (h : Knows T S) (e : GEdit) : fitsEd T e = true ↔ ∀ x, S x → goes (.ed e) x := by
  unfold fitsEd
  simp only [Bool.and_eq_true]
  constructor
  · rintro ⟨h1, h2⟩ x hx
    cases x with
    | rc r o =>
      intro hn
      rw [(h.revs (nameOf e.op) r).2 ⟨o, hx, hn⟩] at h2
      simp only [(h.recs r o).2 hx, Option.getD_some] at h2
      exact h2
    | ed e' =>
      intro hn
      rw [(h.eds (nameOf e.op) e').2 ⟨hx, hn.symm⟩] at h1
      exact (of_decide_eq_true h1).symm
  · intro ha
    refine ⟨?_, ?_⟩
    · cases hg : get T.edits (nameOf e.op) with
      | none => rfl
      | some e' =>
        obtain ⟨he, hn⟩ := (h.eds _ e').1 hg
        exact decide_eq_true (ha _ he hn.symm).symm
    · cases hg : get T.revs (nameOf e.op) with
      | none => rfl
      | some r =>
        obtain ⟨o, ho, hn⟩ := (h.revs _ r).1 hg
        simp only [(h.recs r o).2 ho, Option.getD_some]
        exact ha _ ho hn
theorem knows_rec {T : GTap} {S : Item → Prop} (h : Knows T S) (r : Int) (o : GOp) (ep : Int) (hf : ∀ x, S x → goes (.rc r o) x) :
    Knows { T with epoch := ep, records := put T.records r o, revs := put T.revs (nameOf o) r } (fun x => S x ∨ x = .rc r o) := by
  refine ⟨fun r' o' => ?_, fun n r' => ?_, fun n e => ?_, ?_⟩
  · show get (put T.records r o) r' = some o' ↔ _
    rw [get_put]
    by_cases e : r = r'
    · subst e
      rw [if_pos rfl]
      constructor
      · intro he; cases he; exact .inr rfl
      · rintro (hs | hs)
        · rw [(hf _ hs).1 rfl]
        · cases hs; rfl
    · rw [if_neg e, h.recs]
      constructor
      · exact .inl
      · rintro (hs | hs)
        · exact hs
        · cases hs; exact absurd rfl e
  · show get (put T.revs (nameOf o) r) n = some r' ↔ _
    rw [get_put]
    by_cases e : nameOf o = n
    · subst e
      rw [if_pos rfl]
      constructor
      · intro he; cases he; exact ⟨o, .inr rfl, rfl⟩
      · rintro ⟨o', hs | hs, hn⟩
        · rw [(hf _ hs).2 hn.symm]
        · cases hs; rfl
    · rw [if_neg e, h.revs]
      constructor
      · rintro ⟨o', hs, hn⟩; exact ⟨o', .inl hs, hn⟩
      · rintro ⟨o', hs | hs, hn⟩
        · exact ⟨o', hs, hn⟩
        · cases hs; exact absurd hn e
  · show get T.edits n = some e ↔ _
    rw [h.eds]
    constructor
    · rintro ⟨hs, hn⟩; exact ⟨.inl hs, hn⟩
    · rintro ⟨hs | hs, hn⟩
      · exact ⟨hs, hn⟩
      · cases hs
  · rintro x y (hx | rfl) (hy | rfl)
    · exact h.all x y hx hy
    · exact goes_symm (hf x hx)
    · exact hf y hy
    · exact goes_self _
theorem knows_ed {T : GTap} {S : Item → Prop} (h : Knows T S) (e : GEdit) (ep : Int) (hf : ∀ x, S x → goes (.ed e) x) :
    Knows { T with epoch := ep, edits := put T.edits (nameOf e.op) e } (fun x => S x ∨ x = .ed e) := by
  refine ⟨fun r' o' => ?_, fun n r' => ?_, fun n e' => ?_, ?_⟩
  · show get T.records r' = some o' ↔ _
    rw [h.recs]
    exact ⟨.inl, fun hs => hs.elim id fun e => by cases e⟩
  · show get T.revs n = some r' ↔ _
    rw [h.revs]
    constructor
    · rintro ⟨o', hs, hn⟩; exact ⟨o', .inl hs, hn⟩
    · rintro ⟨o', hs | hs, hn⟩
      · exact ⟨o', hs, hn⟩
      · cases hs
  · show get (put T.edits (nameOf e.op) e) n = some e' ↔ _
    rw [get_put]
    by_cases hn : nameOf e.op = n
    · subst hn
      rw [if_pos rfl]
      constructor
      · intro he; cases he; exact ⟨.inr rfl, rfl⟩
      · rintro ⟨hs | hs, hn⟩
        · rw [hf _ hs hn.symm]
        · cases hs; rfl
    · rw [if_neg hn, h.eds]
      constructor
      · rintro ⟨hs, hn'⟩; exact ⟨.inl hs, hn'⟩
      · rintro ⟨hs | hs, hn'⟩
        · exact ⟨hs, hn'⟩
        · cases hs; exact absurd hn' hn
  · rintro x y (hx | rfl) (hy | rfl)
    · exact h.all x y hx hy
    · exact goes_symm (hf x hx)
    · exact hf y hy
    · exact goes_self _

/-- What a datagram is by itself, for a tap of n clients: an error's number and place, or what its message says. -/
inductive Alone where
  | bad (x : Int × Int)
  | quiet (epoch : Int)
  | item (epoch : Int) (x : Item) (at_ : Int)
def aloneF (n fr to_ : Int) (xs : List UInt8) : Alone :=
  if (decide (fr = 0) == decide (to_ = 0)) ∨ (fr < 0 ∨ to_ < 0) ∨ (n < fr ∨ n < to_) then .bad (71, 0)
  else match decF xs with
    | .error x => .bad x
    | .ok m =>
      if rightWay m fr to_ = false then .bad (281, 0)
      else if m.kind = 5 then .item m.epoch (.rc m.rev m.op) m.rev
      else if m.kind = 2 then .item m.epoch (.ed ⟨m.tag, m.op⟩) m.op.seq
      else .quiet m.epoch
theorem alone_bad {n fr to_ : Int} {xs : List UInt8} {x : Int × Int} (h : aloneF n fr to_ xs = .bad x) : x.1 ≠ 0 ∧ x.1 ≠ 280 := by
  unfold aloneF at h
  split at h
  · cases h; simp
  · split at h
    · rename_i hd
      cases h
      exact decF_code hd
    · split at h
      · cases h; simp
      · split at h
        · cases h
        · split at h <;> cases h
/-- What seeing it does: refused for what it is alone; or taken or told in two ways, as it goes with what is known. -/
theorem see_alone {T : GTap} {S : Item → Prop} (h : Knows T S) (fr to_ : Int) (xs : List UInt8) :
    match aloneF T.clients fr to_ xs with
    | .bad x => seeF T fr to_ xs = (x, T)
    | .quiet ep => seeF T fr to_ xs = ((0, 0), { T with epoch := maxI T.epoch ep })
    | .item ep x pl => ((∀ y, S y → goes x y) → (seeF T fr to_ xs).1 = (0, 0) ∧ Knows (seeF T fr to_ xs).2 (fun y => S y ∨ y = x) ∧ (seeF T fr to_ xs).2.epoch = maxI T.epoch ep ∧ (seeF T fr to_ xs).2.clients = T.clients) ∧
        (¬ (∀ y, S y → goes x y) → seeF T fr to_ xs = ((280, pl), T)) := by
  unfold aloneF seeF
  by_cases hb : (decide (fr = 0) == decide (to_ = 0)) ∨ (fr < 0 ∨ to_ < 0) ∨ (T.clients < fr ∨ T.clients < to_)
  · simp only [if_pos hb]
  · simp only [if_neg hb]
    cases hd : decF xs with
    | error x => rfl
    | ok m =>
      dsimp only
      cases hw : rightWay m fr to_
      · simp only [if_true]
      · simp only [Bool.true_eq_false, if_false]
        by_cases h5 : m.kind = 5
        · simp only [if_pos h5]
          have hi := fitsRec_iff h m.rev m.op
          constructor
          · intro ha
            rw [if_pos (hi.2 ha)]
            exact ⟨rfl, knows_rec h m.rev m.op _ ha, rfl, rfl⟩
          · intro ha
            rw [if_neg (fun hf => ha (hi.1 hf))]
        · simp only [if_neg h5]
          by_cases h2 : m.kind = 2
          · simp only [if_pos h2]
            have hi := fitsEd_iff h ⟨m.tag, m.op⟩
            constructor
            · intro ha
              rw [if_pos (hi.2 ha)]
              exact ⟨rfl, knows_ed h ⟨m.tag, m.op⟩ _ ha, rfl, rfl⟩
            · intro ha
              rw [if_neg (fun hf => ha (hi.1 hf))]
          · simp only [if_neg h2]

/-! ### many datagrams, one after the other -/
abbrev Dg := Int × Int × List UInt8
def runF (T : GTap) : List Dg → GTap × List Int
  | [] => (T, [])
  | d :: l => ((runF (seeF T d.1 d.2.1 d.2.2).2 l).1, (seeF T d.1 d.2.1 d.2.2).1.1 :: (runF (seeF T d.1 d.2.1 d.2.2).2 l).2)
def itemOf (n : Int) (d : Dg) : Option Item := match aloneF n d.1 d.2.1 d.2.2 with | .item _ x _ => some x | _ => none
def epochOf (n : Int) (d : Dg) : Option Int := match aloneF n d.1 d.2.1 d.2.2 with | .item e _ _ => some e | .quiet e => some e | .bad _ => none
def itemsF (n : Int) (l : List Dg) : List Item := l.filterMap (itemOf n)
def epochsF (n : Int) (l : List Dg) : List Int := l.filterMap (epochOf n)
theorem knows_epoch {T : GTap} {S : Item → Prop} (h : Knows T S) (ep : Int) : Knows { T with epoch := ep } S := ⟨h.recs, h.revs, h.eds, h.all⟩
theorem knows_congr {T : GTap} {S S' : Item → Prop} (h : Knows T S) (e : ∀ x, S x ↔ S' x) : Knows T S' :=
  ⟨fun r o => (h.recs r o).trans (e _), fun n r => (h.revs n r).trans ⟨fun ⟨o, a, b⟩ => ⟨o, (e _).1 a, b⟩, fun ⟨o, a, b⟩ => ⟨o, (e _).2 a, b⟩⟩, fun n x => (h.eds n x).trans ⟨fun ⟨a, b⟩ => ⟨(e _).1 a, b⟩, fun ⟨a, b⟩ => ⟨(e _).2 a, b⟩⟩, fun x y hx hy => h.all x y ((e x).2 hx) ((e y).2 hy)⟩
/-- None is told in two ways just if all go together; then all that was told is known. -/
theorem run_law : ∀ (l : List Dg) (T : GTap) (S : Item → Prop), Knows T S →
    ((∀ c ∈ (runF T l).2, c ≠ 280) ↔ ∀ x ∈ itemsF T.clients l, ∀ y, S y ∨ y ∈ itemsF T.clients l → goes x y) ∧
    ((∀ c ∈ (runF T l).2, c ≠ 280) → Knows (runF T l).1 (fun x => S x ∨ x ∈ itemsF T.clients l) ∧ (runF T l).1.epoch = (epochsF T.clients l).foldl maxI T.epoch ∧ (runF T l).1.clients = T.clients)
  | [], T, S, h => by
    refine ⟨⟨fun _ x hx => (by cases hx), fun _ c hc => (by cases hc)⟩, fun _ => ⟨knows_congr h fun x => ⟨.inl, fun hx => hx.elim id fun hx => (by cases hx)⟩, rfl, rfl⟩⟩
  | d :: l, T, S, h => by
    have ha := see_alone h d.1 d.2.1 d.2.2
    have hi : itemsF T.clients (d :: l) = (itemOf T.clients d).toList ++ itemsF T.clients l := by
      unfold itemsF
      rw [List.filterMap_cons]
      cases itemOf T.clients d <;> rfl
    have he : epochsF T.clients (d :: l) = (epochOf T.clients d).toList ++ epochsF T.clients l := by
      unfold epochsF
      rw [List.filterMap_cons]
      cases epochOf T.clients d <;> rfl
    rw [hi, he]
    unfold itemOf epochOf runF
    dsimp only
    generalize hal : aloneF T.clients d.1 d.2.1 d.2.2 = al at ha
    cases al with
    | bad x =>
      dsimp only at ha
      have hx := alone_bad hal
      rw [ha]
      have ih := run_law l T S h
      dsimp only
      simp only [Option.toList, List.nil_append]
      constructor
      · rw [← ih.1]
        constructor
        · exact fun hh c hc => hh c (List.mem_cons_of_mem _ hc)
        · intro hh c hc
          rcases List.mem_cons.1 hc with rfl | hc
          · exact hx.2
          · exact hh c hc
      · intro hh
        exact ih.2 fun c hc => hh c (List.mem_cons_of_mem _ hc)
    | quiet ep =>
      dsimp only at ha
      rw [ha]
      have ih := run_law l { T with epoch := maxI T.epoch ep } S (knows_epoch h _)
      dsimp only at ih ⊢
      simp only [Option.toList, List.nil_append, List.cons_append, List.foldl_cons]
      constructor
      · rw [← ih.1]
        constructor
        · exact fun hh c hc => hh c (List.mem_cons_of_mem _ hc)
        · intro hh c hc
          rcases List.mem_cons.1 hc with rfl | hc
          · decide
          · exact hh c hc
      · intro hh
        exact ih.2 fun c hc => hh c (List.mem_cons_of_mem _ hc)
    | item ep x pl =>
      dsimp only at ha
      dsimp only
      simp only [Option.toList, List.cons_append, List.nil_append, List.foldl_cons]
      by_cases hg : ∀ y, S y → goes x y
      · obtain ⟨h1, h2, h3, h4⟩ := ha.1 hg
        have ih := run_law l (seeF T d.1 d.2.1 d.2.2).2 _ h2
        rw [h4, h3] at ih
        rw [h1]
        constructor
        · constructor
          · intro hh
            have hr := ih.1.1 fun c hc => hh c (List.mem_cons_of_mem _ hc)
            intro z hz y hy
            rcases List.mem_cons.1 hz with rfl | hz
            · rcases hy with hy | hy
              · exact hg y hy
              · rcases List.mem_cons.1 hy with rfl | hy
                · exact goes_self _
                · exact goes_symm (hr y hy z (.inl (.inr rfl)))
            · refine hr z hz y ?_
              rcases hy with hy | hy
              · exact .inl (.inl hy)
              · rcases List.mem_cons.1 hy with rfl | hy
                · exact .inl (.inr rfl)
                · exact .inr hy
          · intro hh c hc
            rcases List.mem_cons.1 hc with rfl | hc
            · decide
            · refine ih.1.2 (fun z hz y hy => hh z (List.mem_cons_of_mem _ hz) y ?_) c hc
              rcases hy with (hy | rfl) | hy
              · exact .inl hy
              · exact .inr (List.mem_cons_self ..)
              · exact .inr (List.mem_cons_of_mem _ hy)
        · intro hh
          obtain ⟨k1, k2, k3⟩ := ih.2 fun c hc => hh c (List.mem_cons_of_mem _ hc)
          refine ⟨knows_congr k1 fun z => ?_, k2, k3⟩
          constructor
          · rintro ((hz | rfl) | hz)
            · exact .inl hz
            · exact .inr (List.mem_cons_self ..)
            · exact .inr (List.mem_cons_of_mem _ hz)
          · rintro (hz | hz)
            · exact .inl (.inl hz)
            · rcases List.mem_cons.1 hz with rfl | hz
              · exact .inl (.inr rfl)
              · exact .inr hz
      · have h2 := ha.2 hg
        rw [h2]
        constructor
        · constructor
          · intro hh
            exact absurd rfl (hh 280 (List.mem_cons_self ..))
          · intro hh
            exact absurd (fun y hy => hh x (List.mem_cons_self ..) y (.inl hy)) hg
        · intro hh
          exact absurd rfl (hh 280 (List.mem_cons_self ..))
end Go.Proofs.YtodkhoclbhdihaaGreatDoor

/-
  Plain laws of a tap: what can stand depends on what is looked up alone, not on the order in which it came. No memory and no program in it.
-/
namespace Go.Proofs.YtodkhoclbhdihaaGreatDoor

theorem standGo_more (recs : List (Int × GOp)) : ∀ (f : Nat) (rev : Int) (seqs : List (Int × Int)) (l : List GOp) (text : List GElem), (∃ j : Nat, j < f ∧ get recs (rev + j) = none) →
    standGo recs (f + 1) rev seqs l text = standGo recs f rev seqs l text
  | 0, _, _, _, _, ⟨j, hj, _⟩ => absurd hj (by omega)
  | f + 1, rev, seqs, l, text, ⟨j, hj, hn⟩ => by
    unfold standGo
    cases hg : get recs rev with
    | none => rfl
    | some o =>
      dsimp only
      split
      · cases applyF text o with
        | error _ => rfl
        | ok next =>
          dsimp only
          refine standGo_more recs f (rev + 1) _ _ _ ?_
          cases j with
          | zero => rw [show rev + ((0 : Nat) : Int) = rev by omega, hg] at hn; cases hn
          | succ j => exact ⟨j, by omega, by rw [show rev + 1 + (j : Int) = rev + ((j + 1 : Nat) : Int) by omega]; exact hn⟩
      · rfl
theorem standGo_up (recs : List (Int × GOp)) (f k : Nat) (rev : Int) (seqs : List (Int × Int)) (l : List GOp) (text : List GElem) (h : ∃ j : Nat, j < f ∧ get recs (rev + j) = none) :
    standGo recs (f + k) rev seqs l text = standGo recs f rev seqs l text := by
  induction k with
  | zero => rfl
  | succ k ih =>
    rw [← ih, show f + (k + 1) = (f + k) + 1 by omega]
    obtain ⟨j, hj, hn⟩ := h
    exact standGo_more recs (f + k) rev seqs l text ⟨j, by omega, hn⟩
theorem standGo_congr (r1 r2 : List (Int × GOp)) (h : ∀ k, get r1 k = get r2 k) : ∀ (f : Nat) (rev : Int) (seqs : List (Int × Int)) (l : List GOp) (text : List GElem), standGo r1 f rev seqs l text = standGo r2 f rev seqs l text
  | 0, _, _, _, _ => rfl
  | f + 1, rev, seqs, l, text => by
    unfold standGo
    rw [h rev]
    cases get r2 rev with
    | none => rfl
    | some o =>
      dsimp only
      split
      · cases applyF text o with
        | error _ => rfl
        | ok next => exact standGo_congr r1 r2 h f _ _ _ _
      · rfl
theorem some_gap (recs : List (Int × GOp)) : ∃ j : Nat, j < recs.length + 1 ∧ get recs (1 + j) = none := by
  by_cases h : ∀ i : Nat, 1 ≤ i → i ≤ recs.length + 1 → (get recs (i : Int)).isSome = true
  · have := known_le recs (recs.length + 1) h
    omega
  · have h' : ∃ i : Nat, 1 ≤ i ∧ i ≤ recs.length + 1 ∧ (get recs (i : Int)).isSome ≠ true := by
      apply Classical.byContradiction
      intro hc
      exact h fun i h1 h2 => by
        apply Classical.byContradiction
        intro h3
        exact hc ⟨i, h1, h2, h3⟩
    obtain ⟨i, h1, h2, h3⟩ := h'
    refine ⟨i - 1, by omega, ?_⟩
    have e : (1 : Int) + ((i - 1 : Nat) : Int) = (i : Int) := by omega
    rw [e]
    cases hg : get recs (i : Int) with
    | none => rfl
    | some o => rw [hg] at h3; exact absurd rfl h3
/-- What can stand depends on the look-ups alone. -/
theorem stand_congr (r1 r2 : List (Int × GOp)) (h : ∀ k, get r1 k = get r2 k) : standF r1 = standF r2 := by
  unfold standF
  rw [← standGo_up r1 (r1.length + 1) (r2.length + 1) 1 [] [] [] (some_gap r1), ← standGo_up r2 (r2.length + 1) (r1.length + 1) 1 [] [] [] (some_gap r2), show r2.length + 1 + (r1.length + 1) = r1.length + 1 + (r2.length + 1) by omega]
  exact standGo_congr r1 r2 h _ _ _ _ _
end Go.Proofs.YtodkhoclbhdihaaGreatDoor

/-
  Lists of edits: their cells; the closures of Made, Waiting and gathered; edits.
-/
namespace Go.Proofs.YtodkhoclbhdihaaGreatDoor
open Go.RowKit

def edCells (e : GEdit) : List Value := .int .i64 e.tag :: opCells e.op
def eds (d : List GEdit) : List Value := d.flatMap edCells
abbrev EDT : TypeId := 67
abbrev EDL : TypeId := 72
theorem ed_info : (Tryz.prog.info? EDT).map (fun i => (i.zero, i.size, i.bytes)) = some (some (e6 zeroEdit), 6, 48) := by kernel_rfl
theorem eds_len (d : List GEdit) : (eds d).length = d.length * 6 := by
  unfold eds
  induction d with
  | nil => rfl
  | cons a d ih => rw [List.flatMap_cons, List.length_append, ih, List.length_cons]; simp [edCells, opCells]; omega
theorem eds_one (d : List GEdit) : ∀ v ∈ eds d, v.oneCell' = true := by
  intro v hv
  obtain ⟨e, _, he⟩ := List.mem_flatMap.1 hv
  simp only [edCells, opCells, List.mem_cons, List.not_mem_nil, or_false] at he
  rcases he with rfl | rfl | rfl | rfl | rfl | rfl <;> rfl
theorem eds_drop (d : List GEdit) (k : Nat) : (eds d).drop (k * 6) = eds (d.drop k) := by
  unfold eds
  induction d generalizing k with
  | nil => simp
  | cons a d ih =>
    cases k with
    | zero => simp
    | succ k =>
      rw [List.flatMap_cons, List.drop_succ_cons, show (k + 1) * 6 = (edCells a).length + k * 6 by simp [edCells, opCells]; omega, List.drop_length_add_append, ih]
theorem ed_at {w : World} {A : Option Addr} {n k : Nat} {l : List GEdit} (h : Reads w 6 A n (eds l)) (hk : k < n) : ∃ b off o, A = some ⟨b, off, none⟩ ∧ b < w.heap.size ∧ l[k]? = some o ∧
    w.cell? ⟨b, off + k * 6, none⟩ = some (.int .i64 o.tag) ∧ w.cell? ⟨b, off + k * 6 + 1, none⟩ = some (.int .i64 o.op.kind) ∧ w.cell? ⟨b, off + k * 6 + 2, none⟩ = some (.int .i64 o.op.pos) ∧ w.cell? ⟨b, off + k * 6 + 3, none⟩ = some (.int .u8 (o.op.ch.toNat : Int)) ∧
    w.cell? ⟨b, off + k * 6 + 4, none⟩ = some (.int .i64 o.op.client) ∧ w.cell? ⟨b, off + k * 6 + 5, none⟩ = some (.int .i64 o.op.seq) := by
  obtain ⟨b, off, rfl, hb, hc⟩ := h.2 (by omega)
  have hl : l.length = n := by have := h.1; rw [eds_len] at this; omega
  have hg : l[k]? = some l[k] := List.getElem?_eq_getElem (by omega)
  have hd : l.drop k = l[k] :: l.drop (k + 1) := List.drop_eq_getElem_cons (by omega)
  have hcell : ∀ j, j < 6 → w.cell? ⟨b, off + k * 6 + j, none⟩ = (edCells l[k])[j]? := fun j hj => by
    have hlen : (edCells l[k]).length = 6 := rfl
    have e : (eds l)[k * 6 + j]? = (edCells l[k])[j]? := by
      rw [← List.getElem?_drop, eds_drop, hd]
      show ((edCells l[k]) ++ eds (l.drop (k + 1)))[j]? = _
      rw [List.getElem?_append_left (by omega)]
    have hx : (edCells l[k])[j]? = some (edCells l[k])[j] := List.getElem?_eq_getElem (by omega)
    rw [hx] at e ⊢
    have := hc _ _ e
    rwa [← Nat.add_assoc] at this
  exact ⟨b, off, l[k], rfl, hb, hg, hcell 0 (by omega), hcell 1 (by omega), hcell 2 (by omega), hcell 3 (by omega), hcell 4 (by omega), hcell 5 (by omega)⟩

set_option maxHeartbeats 2000000 in
theorem edits_any (A B : Option Addr) (n m c d : Nat) (xs ys : List GEdit) (w : World) (ha : Reads w 6 A n (eds xs)) (hb : Reads w 6 B m (eds ys)) (hn : n ≤ 1000000) (hm : m ≤ 1000000) :
    Calls Tryz.prog 33 #[.slice A n c, .slice B m d] w fun e w' => e = .returned (.bool (decide (xs = ys))) ∧ Fr None' w w' := by
  have hl1 : xs.length = n := by have := ha.1; rw [eds_len] at this; omega
  have hl2 : ys.length = m := by have := hb.1; rw [eds_len] at this; omega
  by_cases hnm : n = m
  · subst hnm
    have q0 : ((n : Int) != (n : Int)) = false := by simp
    go_enter Tryz.func33, Tryz.ntmps33
    go_wp2
    go_loopw [5] (fun i wr => ∃ k : Nat, k ≤ n ∧ i = .int .i64 (k : Int) ∧ xs.take k = ys.take k ∧ Fr None' w wr) (fun i _ => n - (intOf i).toNat)
    case atStart => exact ⟨0, Nat.zero_le _, rfl, rfl, Fr.refl _ _⟩
    case round =>
      obtain ⟨k, hk, rfl, hpre, hf⟩ := hrel
      by_cases hlt : k < n
      · obtain ⟨b1, o1, x1, rfl, hb1, hx1, c10, c11, c12, c13, c14, c15⟩ := ed_at (ha.frn hf) hlt
        obtain ⟨b2, o2, x2, rfl, hb2, hx2, c20, c21, c22, c23, c24, c25⟩ := ed_at (hb.frn hf) hlt
        have hneq := fun w => neq_e6 x1 x2 w
        unfold e6 at hneq
        have HF := Lib.hid hf
        have HX1 := Lib.hid hx1
        have HX2 := Lib.hid hx2
        have HP := Lib.hid hpre
        clear hf hx1 hx2 hpre
        by_cases hq : x1 = x2
        · rw [decide_eq_true hq, Bool.not_true] at hneq
          have HQ := Lib.hid hq
          clear hq
          go_wp2
          go_quiet (fail)
          go_wp2
          go_round
          case rel => exact ⟨k + 1, by omega, by go_num, by rw [List.take_add_one, List.take_add_one, HX1.out, HX2.out, HP.out, HQ.out], HF.out.drewN _⟩
          case measure => simp [intOf]; omega
        · rw [decide_eq_false hq, Bool.not_false] at hneq
          have HQ := Lib.hid hq
          clear hq
          go_wp2
          go_quiet (fail)
          go_wp2
          go_ret
          refine ⟨retB ?_, HF.out.drewN _⟩
          symm
          rw [decide_eq_false]
          intro e
          have := HX1.out
          rw [e, HX2.out] at this
          exact HQ.out (Option.some.inj this).symm
      · have HF := Lib.hid hf
        have HP := Lib.hid hpre
        clear hf hpre
        go_wp2
        go_ret
        refine ⟨retB ?_, HF.out⟩
        symm
        rw [decide_eq_true]
        have := HP.out
        rwa [List.take_of_length_le (by omega), List.take_of_length_le (by omega)] at this
  · have q0 : ((n : Int) != (m : Int)) = true := by simp; omega
    go_enter Tryz.func33, Tryz.ntmps33
    go_wp2
    go_ret
    exact ⟨retB (by symm; rw [decide_eq_false]; intro e; subst e; omega), Fr.refl _ _⟩

/-! ### the closures -/
theorem madeC_any (c s : Int) (w : World) : Calls Tryz.prog 60 #[.agg #[.int .i64 c, .int .i64 s]] w fun e w' => e = .returned (.bool true) ∧ Fr None' w w' := by
  go_enter Tryz.func60, Tryz.ntmps60
  go_wp2
  go_ret
  exact ⟨rfl, (Fr.refl _ _).alloc _⟩
theorem cmpC_any (x y : GEdit) (w : World) (hx : 0 ≤ x.op.seq ∧ x.op.seq ≤ 1000000) (hy : 0 ≤ y.op.seq ∧ y.op.seq ≤ 1000000) : Calls Tryz.prog 91 #[e6 x, e6 y] w fun e w' => e = .returned (.int .i64 (x.op.seq - y.op.seq)) ∧ Fr None' w w' := by
  have e1 : IntKind.i64.wrap (x.op.seq - y.op.seq) = x.op.seq - y.op.seq := IntWalk.i64_in _ (by omega)
  unfold e6
  clear hx hy
  go_enter Tryz.func91, Tryz.ntmps91
  go_wp2
  go_ret
  exact ⟨rfl, ((Fr.refl _ _).alloc _).alloc _⟩
end Go.Proofs.YtodkhoclbhdihaaGreatDoor

/-
  Contract of gathered with Made's closure, the sort's contract a premise.
-/
namespace Go.Proofs.YtodkhoclbhdihaaGreatDoor
open Go.RowKit

theorem left_list {κ ν : Type} (kv : κ → Value) (vv : ν → Value) (l : List (κ × ν)) (seen : Array Nat) : (leftOf (ents kv vv 0 l).toArray seen).toList = ((l.zipIdx 0).filter fun q => !seen.contains q.2).map (mkE kv vv) := by
  unfold leftOf
  rw [Array.toList_filter]
  simp only [ents]
  rw [List.filter_map]
  rfl
/-- How many entries are still to come. -/
def restLen (w : World) (b r : Nat) : Nat :=
  match w.heap[b]?, w.heap[r]? with
  | some (.map es _), some (.mapIter _ _ seen _) => (leftOf es seen).size
  | _, _ => 0
theorem Ranging.len {κ ν : Type} {kv : κ → Value} {vv : ν → Value} {w : World} {r b : Nat} {l rest : List (κ × ν)} (h : Ranging kv vv w r b l rest) : restLen w b r = rest.length := by
  obtain ⟨hm, seen, hr, rfl⟩ := h
  unfold MapAt at hm
  simp only [restLen, hm, hr]
  have := congrArg List.length (left_list kv vv l seen)
  rw [Array.length_toList] at this
  rw [this]
  simp
theorem Ranging.ne_own {κ ν : Type} {kv : κ → Value} {vv : ν → Value} {w : World} {r b : Nat} {l rest : List (κ × ν)} (h : Ranging kv vv w r b l rest) {base : Nat} {t : TypeId} {s n : Nat} {v : Value} {xs : List Value} (ho : w.ownsRow base t s v n xs) : ¬ v.ownBlock = some r ∧ ¬ v.ownBlock = some b := by
  obtain ⟨hm, seen, hr, _⟩ := h
  constructor
  · intro e
    obtain ⟨cs, hcs⟩ := own_block ho e
    rw [hr] at hcs
    cases hcs
  · intro e
    obtain ⟨cs, hcs⟩ := own_block ho e
    have h2 : w.heap[b]? = _ := hm
    rw [hcs] at h2
    cases h2
def sel (c : Int) (tst : Int × Int → Bool) (l : List ((Int × Int) × GEdit)) : List GEdit := (l.filter fun p => decide (p.1.1 = c) && tst p.1).map (·.2)
theorem sel_app (c : Int) (tst : Int × Int → Bool) (l : List ((Int × Int) × GEdit)) (p : (Int × Int) × GEdit) : sel c tst (l ++ [p]) = if p.1.1 = c ∧ tst p.1 = true then sel c tst l ++ [p.2] else sel c tst l := by
  unfold sel
  rw [List.filter_append, List.map_append]
  by_cases h : p.1.1 = c ∧ tst p.1 = true
  · rw [if_pos h]; simp [h.1, h.2]
  · rw [if_neg h]
    have : (decide (p.1.1 = c) && tst p.1) = false := by
      cases h1 : (decide (p.1.1 = c) && tst p.1)
      · rfl
      · simp at h1; exact absurd h1 h
    simp [this]
/-- What the sort of edits by their Seqs gives. -/
def SortSpec : Prop := ∀ (W w : World) (v : Value) (L : List GEdit), Fr None' W w → w.ownsRow W.heap.size EDT 6 v L.length (eds L) → (∀ e ∈ L, 0 ≤ e.op.seq ∧ e.op.seq ≤ 1000000) → L.length ≤ 100000 →
  ∃ A c, v = .slice A L.length c ∧ Calls Tryz.prog 90 #[.slice A L.length c, .func (.func 91) #[] #[]] w fun e w' =>
    e = .returned (.tuple #[]) ∧ ∃ L' : List GEdit, L'.Perm L ∧ L'.Pairwise (fun a b => a.op.seq ≤ b.op.seq) ∧ L.length ≤ c ∧ Reads w' 6 A L.length (eds L') ∧ (∀ k, Foot A L.length k → W.heap.size ≤ k) ∧ Fr None' W w'
def GathPost (w : World) (L : List GEdit) (ev : Ending) (w' : World) : Prop :=
  ∃ A c L', ev = .returned (.slice A L.length c) ∧ L'.Perm L ∧ L'.Pairwise (fun a b => a.op.seq ≤ b.op.seq) ∧ L.length ≤ c ∧ Reads w' 6 A L.length (eds L') ∧ (∀ k, Foot A L.length k → w.heap.size ≤ k) ∧ Fr None' w w'
def Gathd (w : World) (e : Nat) (T : GTap) (c : Int) (tst : Int × Int → Bool) (l : Value) (wr : World) : Prop :=
  ∃ out rest, Ranging nameV editV wr w.heap.size e T.edits rest ∧ (out ++ rest).Perm T.edits ∧ wr.ownsRow w.heap.size EDT 6 l (sel c tst out).length (eds (sel c tst out)) ∧ Fr None' w wr

set_option maxHeartbeats 16000000 in
theorem gatherMade (hS : SortSpec) (a r v e : Nat) (T : GTap) (c : Int) (w : World) (hT : TapAt w a r v e T) (hlen : T.edits.length ≤ 100000) (hsq : ∀ p ∈ T.edits, 0 ≤ p.2.op.seq ∧ p.2.op.seq ≤ 1000000) :
    Calls Tryz.prog 58 #[.pointer (some ⟨a, 0, none⟩), .int .i64 c, .func (.func 60) #[] #[]] w fun ev w' => ∃ L, L.Perm (sel c (fun _ => true) T.edits) ∧ GathPost w L ev w' := by
  have z0 := hT.cells
  obtain ⟨hst, hRg⟩ := Ranging.start hT.eds ed_under
  have helt := hT.eds.lt
  have H0 : Hid (Gathd w e T c (fun _ => true) (.slice none 0 0) (w.alloc (.mapIter (some e) T.edits.length #[] T.edits.length))) := Lib.hid ⟨[], T.edits, hRg, List.Perm.refl _, World.ownsRow_nil _ _ _ _, (Fr.refl _ _).alloc _⟩
  have HSQ := Lib.hid hsq
  clear hRg hT hsq
  go_enter Tryz.func58, Tryz.ntmps58
  go_wp2
  clear hst z0
  go_loopw [7] (fun l wr => Gathd w e T c (fun _ => true) l wr) (fun _ wr => restLen wr e w.heap.size)
  case atStart => exact H0.out
  case round =>
    clear H0
    obtain ⟨out, rest, hR, hperm, hown, hf⟩ := hrel
    have hRl := hR.len
    rcases hR.next (P := Tryz.prog) 0 (by omega) with ⟨rfl, hrun⟩ | ⟨p, rest', w', hp, hrun, hR', hf', hsz, hent⟩
    · rw [List.append_nil] at hperm
      have hselp : (sel c (fun _ => true) out).Perm (sel c (fun _ => true) T.edits) := (hperm.filter _).map _
      have hlo : (sel c (fun _ => true) out).length ≤ 100000 := by
        unfold sel
        rw [List.length_map]
        exact Nat.le_trans (List.length_filter_le _ _) (by rw [hperm.length_eq]; exact hlen)
      have hbd : ∀ x ∈ sel c (fun _ => true) out, 0 ≤ x.op.seq ∧ x.op.seq ≤ 1000000 := fun x hx => by
        obtain ⟨p, hp, rfl⟩ := List.mem_map.1 hx
        exact HSQ.out p (hperm.mem_iff.1 (List.mem_filter.1 hp).1)
      obtain ⟨A, cc, rfl, hs⟩ := hS w wr _ _ hf hown hbd hlo
      have Hs := Lib.hid hs
      have HP := Lib.hid hselp
      clear hs hown hR hperm hf hlo hbd hselp hRl
      generalize sel c (fun _ => true) out = L at *
      go_wp2_with (go_at_call 90; refine Hs.out.mono ?_; rintro e1 w2 ⟨rfl, L', h1, h2, h3, h4, h5, h6⟩)
      go_ret
      exact ⟨L, HP.out, A, cc, L', rfl, h1, h2, h3, h4, h5, h6⟩
    · obtain ⟨⟨c', s'⟩, ed⟩ := p
      unfold nameV at hrun hent
      unfold editV opCells at hrun hent
      dsimp only at hrun hent
      have hwl : w.heap.size ≤ w'.heap.size := Nat.le_trans hf.size hf'.size
      have hgi : ∀ j, (fun j => Value.ownBlock _ = some j) j → ¬ (j = w.heap.size) := fun j hj e => by
        obtain ⟨cs, hcs⟩ := own_block hown hj
        obtain ⟨_, seen, hit, _⟩ := hR
        rw [e, hit] at hcs
        cases hcs
      have hown1 := own_fr hown hf' hgi
      have hrl : rest'.length < rest.length := by have := hp.length_eq; rw [List.length_cons] at this; omega
      obtain ⟨X, hX⟩ : ∃ X : World, X = (w'.alloc (.cells #[.int .i64 c', .int .i64 s'] 114)).alloc (.cells #[.int .i64 ed.tag, .int .i64 ed.op.kind, .int .i64 ed.op.pos, .int .u8 (ed.op.ch.toNat : Int), .int .i64 ed.op.client, .int .i64 ed.op.seq] EDT) := ⟨_, rfl⟩
      have hXf : Fr None' w' X := by rw [hX]; exact ((Fr.refl _ _).alloc _).alloc _
      have hXe : Blk X (w'.heap.size + 1) EDT #[.int .i64 ed.tag, .int .i64 ed.op.kind, .int .i64 ed.op.pos, .int .u8 (ed.op.ch.toNat : Int), .int .i64 ed.op.client, .int .i64 ed.op.seq] := by
        rw [hX]
        have := Blk.new (w'.alloc (.cells #[.int .i64 c', .int .i64 s'] 114)) EDT #[.int .i64 ed.tag, .int .i64 ed.op.kind, .int .i64 ed.op.pos, .int .u8 (ed.op.ch.toNat : Int), .int .i64 ed.op.client, .int .i64 ed.op.seq]
        rw [show (w'.alloc (.cells #[.int .i64 c', .int .i64 s'] 114)).heap.size = w'.heap.size + 1 by simp] at this
        exact this
      have hpp : ((out ++ [((c', s'), ed)]) ++ rest').Perm T.edits := by
        rw [List.append_assoc]
        exact (List.Perm.append_left out hp.symm).trans hperm
      have hfX := (hf.trans hf' fun i hi hs => by unfold Only at hs; omega).trans' hXf
      have HX := Lib.hid hX
      have HLT := Lib.hid (And.intro hRl hrl)
      by_cases hcc : c' = c
      · have q1 : (c' == c) = true := by simpa using hcc
        have hselA : sel c (fun _ => true) (out ++ [((c', s'), ed)]) = sel c (fun _ => true) out ++ [ed] := by rw [sel_app, if_pos ⟨hcc, rfl⟩]
        have HC := Lib.hid (And.intro hcc hselA)
        have HR' := Lib.hid hR'
        have HPP := Lib.hid hpp
        have HFX := Lib.hid hfX
        have HOwn := Lib.hid (own_fr hown1 hXf fun _ _ h => h)
        have HXe := Lib.hid hXe
        have HXf := Lib.hid hXf
        clear hX hcc hselA hR hR' hf hf' hown hown1 hgi hXf hXe hpp hfX hp hperm hsz hRl hrl
        go_wp2_with fail
        rw [← HX.out]
        refine (madeC_any c' s' X).mono ?_
        rintro e1 w2 ⟨rfl, hf2⟩
        dsimp only
        have hX2 := HXe.out.fr hf2 fun h => h
        have y1 := fun i => Blk.cell hX2 i
        have hR2 := (HR'.out.fr HXf.out (fun h => h) fun h => h).fr hf2 (fun h => h) fun h => h
        have hO2 := own_fr HOwn.out hf2 fun _ _ h => h
        have hx : Fr None' w2 (w2.alloc (.cells #[.int .i64 ed.tag, .int .i64 ed.op.kind, .int .i64 ed.op.pos, .int .u8 (ed.op.ch.toNat : Int), .int .i64 ed.op.client, .int .i64 ed.op.seq] EDT)) := (Fr.refl _ _).alloc _
        have hR3 := hR2.fr hx (fun h => h) fun h => h
        have hO3 := own_fr hO2 hx fun _ _ h => h
        have hF3 := (HFX.out.trans' hf2).trans' hx
        have hsl : (sel c (fun _ => true) out).length ≤ 100000 := by
          unfold sel
          rw [List.length_map]
          have h1 := List.length_filter_le (fun p : (Int × Int) × GEdit => decide (p.1.1 = c) && (fun _ => true) p.1) out
          have h2 := HPP.out.length_eq
          simp only [List.length_append, List.length_cons, List.length_nil] at h2
          omega
        obtain ⟨v3, w3, r3, o3, f3, at3⟩ := app_any (P := Tryz.prog) (t := EDL) (ty := EDL) (e := EDT) (size := 6) (bytes := 48) Tryz.underlying72 ed_info rfl (by omega) hO3 (one_reads w2 EDT [.int .i64 ed.tag, .int .i64 ed.op.kind, .int .i64 ed.op.pos, .int .u8 (ed.op.ch.toNat : Int), .int .i64 ed.op.client, .int .i64 ed.op.seq]) (c := 1) (by simp [Value.oneCell']) (by omega) (by omega) hF3.size
        have hne := hR3.ne_own hO3
        have hR4 := hR3.fr f3 hne.1 hne.2
        have hlow : ∀ j, Value.ownBlock _ = some j → w.heap.size ≤ j := fun j hj => (hO3.lt j hj).1
        have HNew : Hid (Gathd w e T c (fun _ => true) v3 w3) := by
          refine ⟨out ++ [((c', s'), ed)], rest', hR4, HPP.out, ?_, hF3.trans f3 fun i hi hs => by have := hlow i hs; omega⟩
          rw [HC.out.2, List.length_append]
          have e6' : eds (sel c (fun _ => true) out ++ [ed]) = eds (sel c (fun _ => true) out) ++ [.int .i64 ed.tag, .int .i64 ed.op.kind, .int .i64 ed.op.pos, .int .u8 (ed.op.ch.toNat : Int), .int .i64 ed.op.client, .int .i64 ed.op.seq] := by simp [eds, edCells, opCells]
          rw [e6']
          exact o3
        have hlen4 := hR4.len
        have HM := Lib.hid (show restLen w3 e w.heap.size < restLen wr e w.heap.size by rw [hlen4, HLT.out.1]; exact HLT.out.2)
        clear hR2 hO2 hx hR3 hO3 hF3 hsl o3 f3 at3 hne hR4 hlow hlen4 hX2 hf2
        go_wp2_with (at_builtin; refine wpList_app rfl _ _ _ rfl rfl rfl r3 ?_)
        go_round
        case rel => exact HNew.out
        case measure => exact HM.out
      · have q1 : (c' == c) = false := by simpa using hcc
        have hR4 := hR'.fr hXf (fun h => h) fun h => h
        have HNew : Hid (Gathd w e T c (fun _ => true) _ X) := Lib.hid ⟨out ++ [((c', s'), ed)], rest', hR4, hpp, by rw [sel_app, if_neg (fun h => hcc h.1)]; exact own_fr hown1 hXf fun _ _ h => h, hfX⟩
        have hlen4 := hR4.len
        have HM := Lib.hid (show restLen X e w.heap.size < restLen wr e w.heap.size by rw [hlen4, hRl]; exact hrl)
        clear hX hcc hR hR' hf hf' hown hown1 hgi hXf hXe hpp hfX hp hperm hsz hRl hrl hR4 hlen4
        go_wp2
        rw [← HX.out]
        go_round
        case rel => exact HNew.out
        case measure => exact HM.out
end Go.Proofs.YtodkhoclbhdihaaGreatDoor

/-
  Contract of gathered with Waiting's closure, the sort's contract a premise.
-/
namespace Go.Proofs.YtodkhoclbhdihaaGreatDoor
open Go.RowKit

theorem TapAt.lrev1 {w : World} {a r v e : Nat} {T : GTap} (h : TapAt w a r v e T) (c s : Int) : (Instr.lookup MV (.map (some v)) (.agg #[.int .i64 c, .int .i64 s]) false).run Tryz.prog w = .ok (.int .i64 ((get T.revs (c, s)).getD 0)) w := by
  have := h.revs.look1 rev_under name_key mk_int (c, s)
  have e1 : ((get T.revs (c, s)).map vi).getD (vi 0) = .int .i64 ((get T.revs (c, s)).getD 0) := by cases get T.revs (c, s) <;> rfl
  rw [e1] at this
  exact this
def notYet (T : GTap) (n : Int × Int) : Bool := (get T.revs n).getD 0 == 0
set_option maxHeartbeats 4000000 in
theorem waitC_any (a r v e : Nat) (T : GTap) (g : Nat) (c s : Int) (w : World) (hT : TapAt w a r v e T) (hb : Blk w g 23 #[.pointer (some ⟨a, 0, none⟩)]) :
    Calls Tryz.prog 59 #[.agg #[.int .i64 c, .int .i64 s], .pointer (some ⟨g, 0, none⟩)] w fun ev w' => ev = .returned (.bool (notYet T (c, s))) ∧ Fr None' w w' := by
  obtain ⟨X, hX⟩ : ∃ X : World, X = w.alloc (.cells #[.int .i64 c, .int .i64 s] 114) := ⟨_, rfl⟩
  have hXf : Fr None' w X := by rw [hX]; exact (Fr.refl _ _).alloc _
  have hN : Blk X w.heap.size 114 #[.int .i64 c, .int .i64 s] := by rw [hX]; exact Blk.new _ _ _
  have HX := Lib.hid hX
  have hT1 := hT.frn hXf
  have hb1 := hb.fr hXf fun h => h
  have z1 := hT1.cells
  have z2 : X.cell? ⟨g, 0, none⟩ = some (.pointer (some ⟨a, 0, none⟩)) := Blk.cell hb1 0
  have z3 : ∀ i, X.cell? ⟨w.heap.size, i, none⟩ = (#[.int .i64 c, .int .i64 s] : Array Value)[i]? := fun i => Blk.cell hN i
  have z4 := fun n => (hT1.frn ((Fr.refl _ _).drewN n)).lrev1 c s
  have HF := Lib.hid hXf
  obtain ⟨q, hq⟩ : ∃ q, q = (get T.revs (c, s)).getD 0 := ⟨_, rfl⟩
  rw [← hq] at z4
  have HQ := Lib.hid (show notYet T (c, s) = (q == 0) by rw [hq]; rfl)
  clear hX hXf hN hT hb hT1 hb1 hq
  go_enter Tryz.func59, Tryz.ntmps59
  go_wp2
  rw [← HX.out]
  go_quiet (fail)
  go_wp2
  go_ret
  exact ⟨retB HQ.out.symm, HF.out.drewN _⟩
set_option maxHeartbeats 16000000 in
theorem gatherWait (hS : SortSpec) (a r v e : Nat) (T : GTap) (c : Int) (g : Nat) (w : World) (hb : Blk w g 23 #[.pointer (some ⟨a, 0, none⟩)]) (hT : TapAt w a r v e T) (hlen : T.edits.length ≤ 100000) (hsq : ∀ p ∈ T.edits, 0 ≤ p.2.op.seq ∧ p.2.op.seq ≤ 1000000) :
    Calls Tryz.prog 58 #[.pointer (some ⟨a, 0, none⟩), .int .i64 c, .func (.func 59) #[] #[.pointer (some ⟨g, 0, none⟩)]] w fun ev w' => ∃ L, L.Perm (sel c (notYet T) T.edits) ∧ GathPost w L ev w' := by
  have z0 := hT.cells
  obtain ⟨hst, hRg⟩ := Ranging.start hT.eds ed_under
  have helt := hT.eds.lt
  have H0 : Hid (Gathd w e T c (notYet T) (.slice none 0 0) (w.alloc (.mapIter (some e) T.edits.length #[] T.edits.length))) := Lib.hid ⟨[], T.edits, hRg, List.Perm.refl _, World.ownsRow_nil _ _ _ _, (Fr.refl _ _).alloc _⟩
  have HSQ := Lib.hid hsq
  have HTT := Lib.hid hT
  have HBB := Lib.hid hb
  clear hRg hT hsq hb
  go_enter Tryz.func58, Tryz.ntmps58
  go_wp2
  clear hst z0
  go_loopw [7] (fun l wr => Gathd w e T c (notYet T) l wr) (fun _ wr => restLen wr e w.heap.size)
  case atStart => exact H0.out
  case round =>
    clear H0
    obtain ⟨out, rest, hR, hperm, hown, hf⟩ := hrel
    have hRl := hR.len
    rcases hR.next (P := Tryz.prog) 0 (by omega) with ⟨rfl, hrun⟩ | ⟨p, rest', w', hp, hrun, hR', hf', hsz, hent⟩
    · rw [List.append_nil] at hperm
      have hselp : (sel c (notYet T) out).Perm (sel c (notYet T) T.edits) := (hperm.filter _).map _
      have hlo : (sel c (notYet T) out).length ≤ 100000 := by
        unfold sel
        rw [List.length_map]
        exact Nat.le_trans (List.length_filter_le _ _) (by rw [hperm.length_eq]; exact hlen)
      have hbd : ∀ x ∈ sel c (notYet T) out, 0 ≤ x.op.seq ∧ x.op.seq ≤ 1000000 := fun x hx => by
        obtain ⟨p, hp, rfl⟩ := List.mem_map.1 hx
        exact HSQ.out p (hperm.mem_iff.1 (List.mem_filter.1 hp).1)
      obtain ⟨A, cc, rfl, hs⟩ := hS w wr _ _ hf hown hbd hlo
      have Hs := Lib.hid hs
      have HP := Lib.hid hselp
      clear hs hown hR hperm hf hlo hbd hselp hRl
      generalize sel c (notYet T) out = L at *
      go_wp2_with (go_at_call 90; refine Hs.out.mono ?_; rintro e1 w2 ⟨rfl, L', h1, h2, h3, h4, h5, h6⟩)
      go_ret
      exact ⟨L, HP.out, A, cc, L', rfl, h1, h2, h3, h4, h5, h6⟩
    · obtain ⟨⟨c', s'⟩, ed⟩ := p
      unfold nameV at hrun hent
      unfold editV opCells at hrun hent
      dsimp only at hrun hent
      have hwl : w.heap.size ≤ w'.heap.size := Nat.le_trans hf.size hf'.size
      have hgi : ∀ j, (fun j => Value.ownBlock _ = some j) j → ¬ (j = w.heap.size) := fun j hj e => by
        obtain ⟨cs, hcs⟩ := own_block hown hj
        obtain ⟨_, seen, hit, _⟩ := hR
        rw [e, hit] at hcs
        cases hcs
      have hown1 := own_fr hown hf' hgi
      have hrl : rest'.length < rest.length := by have := hp.length_eq; rw [List.length_cons] at this; omega
      obtain ⟨X, hX⟩ : ∃ X : World, X = (w'.alloc (.cells #[.int .i64 c', .int .i64 s'] 114)).alloc (.cells #[.int .i64 ed.tag, .int .i64 ed.op.kind, .int .i64 ed.op.pos, .int .u8 (ed.op.ch.toNat : Int), .int .i64 ed.op.client, .int .i64 ed.op.seq] EDT) := ⟨_, rfl⟩
      have hXf : Fr None' w' X := by rw [hX]; exact ((Fr.refl _ _).alloc _).alloc _
      have hXe : Blk X (w'.heap.size + 1) EDT #[.int .i64 ed.tag, .int .i64 ed.op.kind, .int .i64 ed.op.pos, .int .u8 (ed.op.ch.toNat : Int), .int .i64 ed.op.client, .int .i64 ed.op.seq] := by
        rw [hX]
        have := Blk.new (w'.alloc (.cells #[.int .i64 c', .int .i64 s'] 114)) EDT #[.int .i64 ed.tag, .int .i64 ed.op.kind, .int .i64 ed.op.pos, .int .u8 (ed.op.ch.toNat : Int), .int .i64 ed.op.client, .int .i64 ed.op.seq]
        rw [show (w'.alloc (.cells #[.int .i64 c', .int .i64 s'] 114)).heap.size = w'.heap.size + 1 by simp] at this
        exact this
      have hpp : ((out ++ [((c', s'), ed)]) ++ rest').Perm T.edits := by
        rw [List.append_assoc]
        exact (List.Perm.append_left out hp.symm).trans hperm
      have hfX := (hf.trans hf' fun i hi hs => by unfold Only at hs; omega).trans' hXf
      have HX := Lib.hid hX
      have HLT := Lib.hid (And.intro hRl hrl)
      by_cases hcc : c' = c
      · have q1 : (c' == c) = true := by simpa using hcc
        cases hnq : notYet T (c', s')
        · have hselB : sel c (notYet T) (out ++ [((c', s'), ed)]) = sel c (notYet T) out := by rw [sel_app, if_neg (fun h => by rw [hnq] at h; cases h.2)]
          have HNQ := Lib.hid hnq
          have HSB := Lib.hid hselB
          have HR' := Lib.hid hR'
          have HPP := Lib.hid hpp
          have HFX := Lib.hid hfX
          have HOwn := Lib.hid (own_fr hown1 hXf fun _ _ h => h)
          have HXf := Lib.hid hXf
          clear hX hcc hselB hnq hR hR' hf hf' hown hown1 hgi hXf hXe hpp hfX hp hperm hsz hRl hrl
          go_wp2_with fail
          rw [← HX.out]
          refine (waitC_any a r v e T g c' s' X (HTT.out.frn HFX.out) (HBB.out.fr HFX.out fun h => h)).mono ?_
          rintro e1 w2 ⟨rfl, hf2⟩
          rw [HNQ.out]
          dsimp only
          have hR2 := (HR'.out.fr HXf.out (fun h => h) fun h => h).fr hf2 (fun h => h) fun h => h
          have HNew : Hid (Gathd w e T c (notYet T) _ w2) := Lib.hid ⟨out ++ [((c', s'), ed)], rest', hR2, HPP.out, by rw [HSB.out]; exact own_fr HOwn.out hf2 fun _ _ h => h, HFX.out.trans' hf2⟩
          have hlen4 := hR2.len
          have HM := Lib.hid (show restLen w2 e w.heap.size < restLen wr e w.heap.size by rw [hlen4, HLT.out.1]; exact HLT.out.2)
          clear hR2 hlen4 hf2
          go_wp2
          go_round
          case rel => exact HNew.out
          case measure => exact HM.out
        · have hselA : sel c (notYet T) (out ++ [((c', s'), ed)]) = sel c (notYet T) out ++ [ed] := by rw [sel_app, if_pos ⟨hcc, hnq⟩]
          have HNQ := Lib.hid hnq
          have HC := Lib.hid (And.intro hcc hselA)
          have HR' := Lib.hid hR'
          have HPP := Lib.hid hpp
          have HFX := Lib.hid hfX
          have HOwn := Lib.hid (own_fr hown1 hXf fun _ _ h => h)
          have HXe := Lib.hid hXe
          have HXf := Lib.hid hXf
          clear hX hcc hselA hnq hR hR' hf hf' hown hown1 hgi hXf hXe hpp hfX hp hperm hsz hRl hrl
          go_wp2_with fail
          rw [← HX.out]
          refine (waitC_any a r v e T g c' s' X (HTT.out.frn HFX.out) (HBB.out.fr HFX.out fun h => h)).mono ?_
          rintro e1 w2 ⟨rfl, hf2⟩
          rw [HNQ.out]
          dsimp only
          have hX2 := HXe.out.fr hf2 fun h => h
          have y1 := fun i => Blk.cell hX2 i
          have hR2 := (HR'.out.fr HXf.out (fun h => h) fun h => h).fr hf2 (fun h => h) fun h => h
          have hO2 := own_fr HOwn.out hf2 fun _ _ h => h
          have hx : Fr None' w2 (w2.alloc (.cells #[.int .i64 ed.tag, .int .i64 ed.op.kind, .int .i64 ed.op.pos, .int .u8 (ed.op.ch.toNat : Int), .int .i64 ed.op.client, .int .i64 ed.op.seq] EDT)) := (Fr.refl _ _).alloc _
          have hR3 := hR2.fr hx (fun h => h) fun h => h
          have hO3 := own_fr hO2 hx fun _ _ h => h
          have hF3 := (HFX.out.trans' hf2).trans' hx
          have hsl : (sel c (notYet T) out).length ≤ 100000 := by
            unfold sel
            rw [List.length_map]
            have h1 := List.length_filter_le (fun p : (Int × Int) × GEdit => decide (p.1.1 = c) && (notYet T) p.1) out
            have h2 := HPP.out.length_eq
            simp only [List.length_append, List.length_cons, List.length_nil] at h2
            omega
          obtain ⟨v3, w3, r3, o3, f3, at3⟩ := app_any (P := Tryz.prog) (t := EDL) (ty := EDL) (e := EDT) (size := 6) (bytes := 48) Tryz.underlying72 ed_info rfl (by omega) hO3 (one_reads w2 EDT [.int .i64 ed.tag, .int .i64 ed.op.kind, .int .i64 ed.op.pos, .int .u8 (ed.op.ch.toNat : Int), .int .i64 ed.op.client, .int .i64 ed.op.seq]) (c := 1) (by simp [Value.oneCell']) (by omega) (by omega) hF3.size
          have hne := hR3.ne_own hO3
          have hR4 := hR3.fr f3 hne.1 hne.2
          have hlow : ∀ j, Value.ownBlock _ = some j → w.heap.size ≤ j := fun j hj => (hO3.lt j hj).1
          have HNew : Hid (Gathd w e T c (notYet T) v3 w3) := by
            refine ⟨out ++ [((c', s'), ed)], rest', hR4, HPP.out, ?_, hF3.trans f3 fun i hi hs => by have := hlow i hs; omega⟩
            rw [HC.out.2, List.length_append]
            have e6' : eds (sel c (notYet T) out ++ [ed]) = eds (sel c (notYet T) out) ++ [.int .i64 ed.tag, .int .i64 ed.op.kind, .int .i64 ed.op.pos, .int .u8 (ed.op.ch.toNat : Int), .int .i64 ed.op.client, .int .i64 ed.op.seq] := by simp [eds, edCells, opCells]
            rw [e6']
            exact o3
          have hlen4 := hR4.len
          have HM := Lib.hid (show restLen w3 e w.heap.size < restLen wr e w.heap.size by rw [hlen4, HLT.out.1]; exact HLT.out.2)
          clear hR2 hO2 hx hR3 hO3 hF3 hsl o3 f3 at3 hne hR4 hlow hlen4 hX2 hf2
          go_wp2_with (at_builtin; refine wpList_app rfl _ _ _ rfl rfl rfl r3 ?_)
          go_round
          case rel => exact HNew.out
          case measure => exact HM.out
      · have q1 : (c' == c) = false := by simpa using hcc
        have hR4 := hR'.fr hXf (fun h => h) fun h => h
        have HNew : Hid (Gathd w e T c (notYet T) _ X) := Lib.hid ⟨out ++ [((c', s'), ed)], rest', hR4, hpp, by rw [sel_app, if_neg (fun h => hcc h.1)]; exact own_fr hown1 hXf fun _ _ h => h, hfX⟩
        have hlen4 := hR4.len
        have HM := Lib.hid (show restLen X e w.heap.size < restLen wr e w.heap.size by rw [hlen4, hRl]; exact hrl)
        clear hX hcc hR hR' hf hf' hown hown1 hgi hXf hXe hpp hfX hp hperm hsz hRl hrl hR4 hlen4
        go_wp2
        rw [← HX.out]
        go_round
        case rel => exact HNew.out
        case measure => exact HM.out
end Go.Proofs.YtodkhoclbhdihaaGreatDoor

/-
  Contracts of tap's Made and Waiting, the sort's contract a premise.
-/
namespace Go.Proofs.YtodkhoclbhdihaaGreatDoor
open Go.RowKit

theorem made_any (hS : SortSpec) (a r v e : Nat) (T : GTap) (c : Int) (w : World) (hT : TapAt w a r v e T) (hlen : T.edits.length ≤ 100000) (hsq : ∀ p ∈ T.edits, 0 ≤ p.2.op.seq ∧ p.2.op.seq ≤ 1000000) :
    Calls Tryz.prog 34 #[.pointer (some ⟨a, 0, none⟩), .int .i64 c] w fun ev w' => ∃ L, L.Perm (sel c (fun _ => true) T.edits) ∧ GathPost w L ev w' := by
  have Hg := Lib.hid (gatherMade hS a r v e T c w hT hlen hsq)
  clear hT hlen hsq
  go_enter Tryz.func34, Tryz.ntmps34
  go_wp2_with (go_at_call 58; refine Hg.out.mono ?_; rintro e1 w1 ⟨L, hp, A, cc, L', rfl, h1⟩)
  go_ret
  exact ⟨L, hp, A, cc, L', rfl, h1⟩
theorem waiting_any (hS : SortSpec) (a r v e : Nat) (T : GTap) (c : Int) (w : World) (hT : TapAt w a r v e T) (hlen : T.edits.length ≤ 100000) (hsq : ∀ p ∈ T.edits, 0 ≤ p.2.op.seq ∧ p.2.op.seq ≤ 1000000) :
    Calls Tryz.prog 32 #[.pointer (some ⟨a, 0, none⟩), .int .i64 c] w fun ev w' => ∃ L, L.Perm (sel c (notYet T) T.edits) ∧ ∃ A cc L', ev = .returned (.slice A L.length cc) ∧ L'.Perm L ∧ L'.Pairwise (fun a b : GEdit => a.op.seq ≤ b.op.seq) ∧ L.length ≤ cc ∧ Reads w' 6 A L.length (eds L') ∧ (∀ k, Foot A L.length k → w.heap.size ≤ k) ∧ Fr None' w w' := by
  have hf0 : Fr None' w (w.alloc (.cells #[.pointer (some ⟨a, 0, none⟩)] 23)) := (Fr.refl _ _).alloc _
  have Hg := Lib.hid (gatherWait hS a r v e T c w.heap.size _ (Blk.new w 23 #[.pointer (some ⟨a, 0, none⟩)]) (hT.frn hf0) hlen hsq)
  have H0 := Lib.hid hf0
  clear hT hlen hsq hf0
  go_enter Tryz.func32, Tryz.ntmps32
  go_wp2_with (go_at_call 58; refine Hg.out.mono ?_; rintro e1 w1 ⟨L, hp, A, cc, L', rfl, h1, h2, h3, h4, h5, h6⟩)
  go_ret
  exact ⟨L, hp, A, cc, L', rfl, h1, h2, h3, h4, fun k hk => Nat.le_trans H0.out.size (h5 k hk), H0.out.trans' h6⟩
end Go.Proofs.YtodkhoclbhdihaaGreatDoor

/-
  Two operations of a drawn region that may come in either order. No program in it.
-/
namespace Go.Proofs.YtodkhoclbhdihaaGreatDoor

section
variable {P : Program} {md : Region.Mode} {ops : Array Oper} {Q : Exit → Act → World → Prop} {C : World → Prop} {St : World → World → Prop}
theorem wpS_two (i j : Nat) {oi oj : Oper} (hoi : ops[i]? = some oi) (hoj : ops[j]? = some oj) {f : Nat} {listed : Array Bool} {a : Act} {w : World} (hij : Region.ready md ops listed = [i, j])
    (hi : Region.ready md ops (listed.setIfInBounds i true) = [j]) (hj : Region.ready md ops (listed.setIfInBounds j true) = [i])
    (h1 : ∀ w', C w' → St w w' → wpList P ops (Then fun a2 w2 => C w2 ∧ ∀ w3, C w3 → St w2 w3 → wpList P ops (Then fun a4 w4 => C w4 ∧ wpS P md ops Q C St f ((listed.setIfInBounds i true).setIfInBounds j true) a4 w4) [oj] a2 w3) [oi] a w')
    (h2 : ∀ w', C w' → St w w' → wpList P ops (Then fun a2 w2 => C w2 ∧ ∀ w3, C w3 → St w2 w3 → wpList P ops (Then fun a4 w4 => C w4 ∧ wpS P md ops Q C St f ((listed.setIfInBounds j true).setIfInBounds i true) a4 w4) [oi] a2 w3) [oj] a w') :
    wpS P md ops Q C St (f + 1 + 1) listed a w := by
  intro w' hc hs
  refine ⟨fun h0 => (by rw [h0] at hij; cases hij), fun k hk => ?_⟩
  rw [hij] at hk
  rcases (by simpa using hk : k = i ∨ k = j) with rfl | rfl
  · exact wpOp_mono (fun a2 w2 h => ⟨h.1, wpS_step j hoj hi (fun w3 hc3 hs3 => h.2 w3 hc3 hs3)⟩) (wpOp_of_list hoi (h1 w' hc hs))
  · exact wpOp_mono (fun a2 w2 h => ⟨h.1, wpS_step i hoi hj (fun w3 hc3 hs3 => h.2 w3 hc3 hs3)⟩) (wpOp_of_list hoj (h2 w' hc hs))
end
end Go.Proofs.YtodkhoclbhdihaaGreatDoor

/-
  A case and a flip as arguments, opened.
-/
namespace Go.Proofs.YtodkhoclbhdihaaGreatDoor
open Go.ChangeShapes Go.WideShapes Go.ChangeAt Go.RowKit

section
variable {H : Type} {enc : TypeId × Value → H} {W : World} {base b0 : Nat} {sp : Nat → Bool} {held : Bool} {r : Reach}
theorem c_bool' : Tryz.prog.cellsOf 4 = 1 := by kernel_rfl
theorem c_case : Tryz.prog.cellsOf 65 = 8 := by kernel_rfl
theorem c_flip : Tryz.prog.cellsOf 87 = 2 := by kernel_rfl
theorem bool_of' {P : Program} {t : TypeId} {n : Nat} {cs : List Value} {i : Nat} {x : Option (DataW H × List MemPlace)} (ht : P.underlying t = some .bool) (hx : x.isSome = true) (h : DataW.trod enc P W base sp held n t ((cs.drop i).take 1) = x) :
    ∃ b, (cs.drop i).take 1 = [.bool b] := by
  obtain ⟨y, hy⟩ := Option.isSome_iff_exists.1 hx
  rw [hy] at h
  obtain ⟨b, h1, h2⟩ := DataW.trod_bool ht h
  exact ⟨b, h1⟩
set_option maxRecDepth 100000 in
theorem open_case {v : Value} {d : DataW H} {ps : List MemPlace} (hval : Value.okWide Tryz.prog W r b0 65 v) (hd : DataW.Trod enc Tryz.prog W base sp held 65 v d ps) : ∃ c, v = caseV c := by
  obtain ⟨cs, rfl, hcs⟩ := okWide_struct Tryz.underlying65 hval
  obtain ⟨n, h⟩ := hd
  obtain ⟨xs, m, _, hx, hl, hlen, hf⟩ := DataW.trod_struct Tryz.underlying65 h
  have hlen' : xs.length = 8 := hlen
  rw [c_case] at hl
  have hcc : (Value.agg cs).cells.toList = cs.toList := by simp [Value.cells]
  rw [hcc] at hl hf
  match xs, hlen' with
  | [x0, x1, x2, x3, x4, x5, x6, x7], _ =>
    have h0 := hf 0 _ rfl; have h1 := hf 1 _ rfl; have h2 := hf 2 _ rfl; have h3 := hf 3 _ rfl; have h4 := hf 4 _ rfl; have h5 := hf 5 _ rfl; have h6 := hf 6 _ rfl; have h7 := hf 7 _ rfl
    simp only [List.getElem_toArray, List.getElem_cons_zero, List.getElem_cons_succ, c_int, c_u8, c_bool'] at h0 h1 h2 h3 h4 h5 h6 h7
    obtain ⟨z0, t0⟩ := bool_of' Tryz.underlying4 rfl h0
    obtain ⟨z1, t1⟩ := bool_of' Tryz.underlying4 rfl h1
    obtain ⟨z2, t2, _, _⟩ := cell_of Tryz.underlying3 rfl h2
    obtain ⟨z3, t3, _, _⟩ := cell_of Tryz.underlying3 rfl h3
    obtain ⟨z4, t4, _, w4⟩ := cell_of Tryz.underlying5 rfl h4
    obtain ⟨z5, t5, _, _⟩ := cell_of Tryz.underlying3 rfl h5
    obtain ⟨z6, t6, _, _⟩ := cell_of Tryz.underlying3 rfl h6
    obtain ⟨z7, t7, _, _⟩ := cell_of Tryz.underlying3 rfl h7
    obtain ⟨L⟩ := cs
    try dsimp only at *
    match L, hl with
    | [a0, a1, a2, a3, a4, a5, a6, a7], _ =>
      simp at t0 t1 t2 t3 t4 t5 t6 t7
      subst t0 t1 t2 t3 t4 t5 t6 t7
      refine ⟨⟨z0, z1, z2, z3, UInt8.ofNat z4.toNat, z5, z6, z7⟩, ?_⟩
      unfold caseV
      dsimp only
      rw [← u8_of w4]
set_option maxRecDepth 100000 in
theorem open_flip {v : Value} {d : DataW H} {ps : List MemPlace} (hval : Value.okWide Tryz.prog W r b0 87 v) (hd : DataW.Trod enc Tryz.prog W base sp held 87 v d ps) : ∃ a b, v = .agg #[.int .i64 a, .int .i64 b] := by
  obtain ⟨cs, rfl, hcs⟩ := okWide_struct Tryz.underlying87 hval
  obtain ⟨n, h⟩ := hd
  obtain ⟨y0, y1, m, hx, hl, h0, h1⟩ := trod_struct2 Tryz.underlying87 h
  rw [c_flip] at hl
  have hcc : (Value.agg cs).cells.toList = cs.toList := by simp [Value.cells]
  rw [hcc] at hl h0 h1
  try dsimp only at h0 h1
  rw [c_int] at h0 h1
  obtain ⟨z0, t0, _, _⟩ := cell_of Tryz.underlying3 rfl h0
  obtain ⟨z1, t1, _, _⟩ := cell_of Tryz.underlying3 rfl h1
  obtain ⟨L⟩ := cs
  try dsimp only at *
  match L, hl with
  | [a0, a1], _ =>
    simp at t0 t1
    subst t0 t1
    exact ⟨z0, z1, rfl⟩
set_option maxRecDepth 100000 in
theorem open_bool {v : Value} (hval : Value.okWide Tryz.prog W r b0 4 v) : ∃ b, v = .bool b := okWide_bool Tryz.underlying4 hval
end
end Go.Proofs.YtodkhoclbhdihaaGreatDoor
