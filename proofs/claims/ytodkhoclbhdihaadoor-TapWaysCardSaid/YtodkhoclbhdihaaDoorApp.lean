/-
  Lists that a call makes and lengthens: append of whatever a slice reads, and what of the world has turned. No program in it.
-/
import Derived.Test.YtodkhoclbhdihaaDoorBase
import Derived.Maps.AppendAt
namespace Go.Proofs.YtodkhoclbhdihaaDoor

section
variable {P : Program} {w w' W : World} {base : Nat} {e : TypeId} {size n : Nat} {v : Value} {xs : List Value}
/-- An own slice, read. -/
theorem own_reads (h : w.ownsRow base e size v n xs) : ∃ A c, v = .slice A n c ∧ n ≤ c ∧ Reads w size A n xs ∧ ∀ k, Foot A n k → base ≤ k := by
  rcases h.2 with ⟨rfl, rfl⟩ | ⟨g, cap, cur, rfl, hb, hg, hc, _, _, htake⟩
  · have hx : xs = [] := List.eq_nil_of_length_eq_zero (by simpa using h.1)
    subst hx
    exact ⟨none, 0, rfl, Nat.le_refl _, Reads.nil, fun k hk => by have := hk.1; omega⟩
  · refine ⟨some ⟨g, 0, none⟩, cap, rfl, hc, ⟨h.1, fun _ => ⟨g, 0, rfl, lt_of_heap hg, fun j u hu => ?_⟩⟩, fun k hk => ?_⟩
    · have hc := cell_of_row w g (0 + j) cur e (0, 0) hg
      rw [hc, ← hu, ← htake, List.getElem?_take]
      have hj : j < n * size := by
        have := (List.getElem?_eq_some_iff.1 hu).1
        rw [h.1] at this
        exact this
      rw [if_pos hj]
      simp
    · obtain ⟨_, a, ha, rfl⟩ := hk
      cases ha
      exact hb
theorem own_fr {S : Nat → Prop} (h : w.ownsRow base e size v n xs) (hf : Fr S w w') (hs : ∀ k, v.ownBlock = some k → ¬ S k) : w'.ownsRow base e size v n xs := by
  refine ⟨h.1, ?_⟩
  rcases h.2 with hn | ⟨g, cap, cur, rfl, hb, hg, rest⟩
  · exact .inl hn
  · exact .inr ⟨g, cap, cur, rfl, hb, (hf.block g (lt_of_heap hg) (hs g rfl)).trans hg, rest⟩
/-- append, whatever is appended. -/
theorem app_any {t ty : TypeId} {z : Value} {bytes : Nat} (ht : P.underlying t = some (.slice e)) (hinfo : (P.info? e).map (fun i => (i.zero, i.size, i.bytes)) = some (some z, size, bytes)) (hzs : z.cells.size = size) (hsz : 0 < size)
    (hown : w.ownsRow base e size v n xs) {A : Option Addr} {m c : Nat} {news : List Value} (hr : Reads w size A m news) (h1 : ∀ u ∈ news, u.oneCell' = true) (hn : n + m ≤ 1000000) (hby : bytes ≤ 1000) (hbase : base ≤ w.heap.size) :
    ∃ v' w', (Builtin.append_ #[t, t] ty #[v, .slice A m c]).run P w = .ok v' w' ∧ w'.ownsRow base e size v' (n + m) (xs ++ news) ∧ Fr (fun k => v.ownBlock = some k) w w' ∧ (v'.ownBlock = v.ownBlock ∨ v'.ownBlock = some w.heap.size) := by
  obtain ⟨i, hi, hi2⟩ : ∃ i, P.info? e = some i ∧ (i.zero, i.size, i.bytes) = (some z, size, bytes) := by
    cases h : P.info? e with
    | none => rw [h] at hinfo; cases hinfo
    | some i => rw [h] at hinfo; exact ⟨i, rfl, Option.some.inj hinfo⟩
  simp only [Prod.mk.injEq] at hi2
  obtain ⟨hz, hs, hb⟩ := hi2
  have hbb : (n + m) * bytes ≤ 140737488355328 := Nat.le_trans (Nat.mul_le_mul hn hby) (by decide)
  cases A with
  | some a =>
    by_cases hm : 0 < m
    · obtain ⟨b, off, ha, _, hc⟩ := hr.2 hm
      cases ha
      obtain ⟨v', w', r1, r2, r3, _, r5⟩ := run_append_own_at (P := P) w base t ty e i z size bytes ht hi hz hs hb hzs hsz v n xs hown ⟨b, off, none⟩ m c news hr.1 (fun j u hu => by
        have := hc j u hu
        unfold Addr.add
        split
        · rename_i h0; subst h0; simpa using this
        · exact this) h1 (by simp only [maxLen]; omega) hbb hbase
      exact ⟨v', w', r1, r2, ⟨r3.os, r3.tape, r3.output, r3.size, fun k hk hne => r3.block k hk fun e => hne e.symm⟩, r5⟩
    · have hm0 : m = 0 := by omega
      subst hm0
      have hx : news = [] := List.eq_nil_of_length_eq_zero (by simpa using hr.1)
      subst hx
      obtain ⟨v', w', r1, r2, r3, _, r5⟩ := run_append_own_at (P := P) w base t ty e i z size bytes ht hi hz hs hb hzs hsz v n xs hown a 0 c [] hr.1 (fun j u hu => by simp at hu) h1 (by simp only [maxLen]; omega) hbb hbase
      exact ⟨v', w', r1, r2, ⟨r3.os, r3.tape, r3.output, r3.size, fun k hk hne => r3.block k hk fun e => hne e.symm⟩, r5⟩
  | none =>
    have hm0 : m = 0 := by
      rcases Nat.eq_zero_or_pos m with h | h
      · exact h
      · obtain ⟨_, _, h, _⟩ := hr.2 h
        cases h
    subst hm0
    have hx : news = [] := List.eq_nil_of_length_eq_zero (by simpa using hr.1)
    subst hx
    refine ⟨v, w, ?_, by simpa using hown, Fr.refl _ _, .inl rfl⟩
    rcases hown.2 with ⟨rfl, rfl⟩ | ⟨g, cap, cur, rfl, hbg, hg, hc, _⟩
    · simp [Builtin.append_, run_underlying ht, sizeOf, typeInfo, hi, Builtin.lenOf, Builtin.firstCells]
    · simp [Builtin.append_, run_underlying ht, sizeOf, typeInfo, hi, Builtin.lenOf, Builtin.firstCells, hc, storeCells]
/-- An append whose run is known, at the operation. -/
theorem wpList_app {ops : Array Oper} {rest : List Oper} {o : Oper} {a : Act} {Q : Exit → Act → World → Prop} (hgd : o.guard = none) (s x : Operand) (t : TypeId)
    (ho : o.op = .call { callee := .builtin .append, args := #[s, x], argTypes := #[t, t] }) {u y v' : Value} (hs : a.eval s = u) (hx : a.eval x = y)
    (hr : (Builtin.append_ #[t, t] o.type #[u, y]).run P w = .ok v' w') (h : wpList P ops Q rest (a.put o.dst v') w') : wpList P ops Q (o :: rest) a w :=
  wpList_plain hgd fun _ hK => by
    unfold Oper.wp execOp
    simp only [ho, resolve, invoke, builtin, Sem.run_bind, Sem.run_pure, Result.andThen_ok, List.map_toArray, List.map_cons, List.map_nil, hs, hx, hr]
    exact hK _ _ h
/-- make of an empty list with room. -/
theorem mk_any {t : TypeId} {z : Value} {bytes : Nat} (ht : P.underlying t = some (.slice e)) (hinfo : (P.info? e).map (fun i => (i.zero, i.size, i.bytes)) = some (some z, size, bytes)) (c : Nat) (C : Int) (hC : C = c) (hc : c ≤ 1000000) (hby : bytes ≤ 1000) (hbase : base ≤ w.heap.size) :
    ∃ w', (Instr.makeSlice t (.int .i64 0) (.int .i64 C)).run P w = .ok (.slice (some ⟨w.heap.size, 0, none⟩) 0 c) w' ∧ w'.ownsRow base e size (.slice (some ⟨w.heap.size, 0, none⟩) 0 c) 0 [] ∧ Fr None' w w' := by
  subst hC
  obtain ⟨i, hi, hi2⟩ : ∃ i, P.info? e = some i ∧ (i.zero, i.size, i.bytes) = (some z, size, bytes) := by
    cases h : P.info? e with
    | none => rw [h] at hinfo; cases hinfo
    | some i => rw [h] at hinfo; exact ⟨i, rfl, Option.some.inj hinfo⟩
  simp only [Prod.mk.injEq] at hi2
  obtain ⟨hz, hs, hb⟩ := hi2
  have hbb : i.bytes * c ≤ 281474976710656 := by rw [hb]; exact Nat.le_trans (Nat.mul_le_mul hby hc) (by decide)
  obtain ⟨w', h1, h2, h3⟩ := run_make_own (P := P) w base t e i z size ht hi hz hs .i64 .i64 c hbb (by simp only [maxLen]; omega) hbase
  exact ⟨w', h1, h2, h3.os, h3.tape, h3.output, h3.size, fun k hk _ => h3.block k hk (by simp)⟩
/-- The built list of one element, read. -/
theorem one_reads (w : World) (t : TypeId) (cs : List Value) : Reads (w.alloc (.cells cs.toArray t)) cs.length (some ⟨w.heap.size, 0, none⟩) 1 cs :=
  (Blk.new w t cs.toArray).reads (fun j u hu => by simpa using hu) (by simp)
end
end Go.Proofs.YtodkhoclbhdihaaDoor
