/-
  Contract of tap's stand.
-/
import Derived.Test.YtodkhoclbhdihaaGreatDoorZ8
import Derived.Test.YtodkhoclbhdihaaGreatDoorZ2
namespace Go.Proofs.YtodkhoclbhdihaaGreatDoor
open Go.RowKit

abbrev OL : TypeId := 30
abbrev MI : TypeId := 150
theorem mi_under : Tryz.prog.underlying MI = some (.map INT INT) := Tryz.underlying150
theorem op_info : (Tryz.prog.info? OPT).map (fun i => (i.zero, i.size, i.bytes)) = some (some (.agg #[.int .i64 0, .int .i64 0, .int .u8 0, .int .i64 0, .int .i64 0]), 5, 40) := by kernel_rfl
theorem ops_len (d : List GOp) : (ops d).length = d.length * 5 := by
  unfold ops
  induction d with
  | nil => rfl
  | cons a d ih => rw [List.flatMap_cons, List.length_append, ih, List.length_cons]; simp [opCells]; omega
theorem ops_one (d : List GOp) : ∀ v ∈ ops d, v.oneCell' = true := by
  intro v hv
  obtain ⟨e, _, he⟩ := List.mem_flatMap.1 hv
  simp only [opCells, List.mem_cons, List.not_mem_nil, or_false] at he
  rcases he with rfl | rfl | rfl | rfl | rfl <;> rfl
theorem own_mono {w : World} {b b' : Nat} {t : TypeId} {s n : Nat} {v : Value} {xs : List Value} (h : w.ownsRow b t s v n xs) (hb : b' ≤ b) : w.ownsRow b' t s v n xs := by
  refine ⟨h.1, ?_⟩
  rcases h.2 with hn | ⟨g, cap, cur, rfl, hg, rest⟩
  · exact .inl hn
  · exact .inr ⟨g, cap, cur, rfl, by omega, rest⟩
theorem own_block {w : World} {b : Nat} {t : TypeId} {s n : Nat} {v : Value} {xs : List Value} (h : w.ownsRow b t s v n xs) {g : Nat} (hg : v.ownBlock = some g) : ∃ cs, w.heap[g]? = some (.cells cs t (0, 0)) := by
  rcases h.2 with ⟨rfl, _⟩ | ⟨g', cap, cur, rfl, _, hc, _⟩
  · simp [Value.ownBlock] at hg
  · simp [Value.ownBlock] at hg
    subst hg
    exact ⟨_, hc⟩

/-- How far stand has come: k records. -/
structure Stood (w : World) (g k : Nat) (recs : List (Int × GOp)) (vl vt : Value) (wr : World) : Prop where
  ex : ∃ seqs L D, k ≤ recs.length ∧ (∀ i : Nat, 1 ≤ i → i ≤ k → (get recs (i : Int)).isSome = true) ∧ MapAt vi vi wr g seqs ∧ (∀ c, 0 ≤ (get seqs c).getD 0 ∧ (get seqs c).getD 0 ≤ k) ∧
    wr.ownsRow w.heap.size OPT 5 vl L.length (ops L) ∧ L.length = k ∧ wr.ownsRow w.heap.size ET 3 vt D.length (els D) ∧ Fr None' w wr ∧ standGo recs (recs.length + 1 - k) ((k : Int) + 1) seqs L D = standF recs
def StandPost (w : World) (recs : List (Int × GOp)) (ev : Ending) (w' : World) : Prop :=
  ∃ vl vt, ev = .returned (.tuple #[vl, vt]) ∧ w'.ownsRow w.heap.size OPT 5 vl (standF recs).1.length (ops (standF recs).1) ∧ w'.ownsRow w.heap.size ET 3 vt (standF recs).2.length (els (standF recs).2) ∧ Fr None' w w'

set_option maxHeartbeats 16000000 in
theorem stand_any (a r v e : Nat) (T : GTap) (w : World) (hT : TapAt w a r v e T) (hlen : T.records.length ≤ 100000) :
    Calls Tryz.prog 47 #[.pointer (some ⟨a, 0, none⟩)] w fun ev w' => StandPost w T.records ev w' := by
  have HT := Lib.hid hT
  have hmk := run_mkmap
  have H0 : Hid (Stood w w.heap.size 0 T.records (.slice none 0 0) (.slice none 0 0) (w.alloc (.map #[] 0))) := Lib.hid ⟨[], [], [], Nat.zero_le _, fun i h1 h2 => by omega, MapAt.new w, fun c => by simp [get], World.ownsRow_nil _ _ _ _, rfl, World.ownsRow_nil _ _ _ _, (Fr.refl _ _).alloc _, rfl⟩
  clear hT
  go_enter Tryz.func47, Tryz.ntmps47
  go_wp2
  clear hmk
  go_loopw [4, 5, 7] (fun vl vt rv wr => ∃ k : Nat, rv = .int .i64 ((k : Int) + 1) ∧ Stood w w.heap.size k T.records vl vt wr) (fun _ _ rv _ => T.records.length + 2 - (intOf rv).toNat)
  case atStart => exact ⟨0, rfl, H0.out⟩
  case round =>
    obtain ⟨k, rfl, ⟨seqs, L, D, hk, hkn, hm, hsq, hl, hLk, ht, hf, hgo⟩⟩ := hrel
    clear H0
    have hTr := HT.out.frn hf
    have hlk := hTr.lrec ((k : Int) + 1)
    have z1 := hTr.cells
    obtain ⟨At, ct, rfl, hct, hrt, _⟩ := own_reads ht
    have hk1 : T.records.length + 1 - k = (T.records.length - k) + 1 := by omega
    rw [hk1] at hgo
    unfold standGo at hgo
    have HL := Lib.hid hl
    have Ht := Lib.hid ht
    have HF := Lib.hid hf
    have HM := Lib.hid hm
    have HKN := Lib.hid hkn
    have HSQ := Lib.hid hsq
    have HLk := Lib.hid hLk
    have HRT := Lib.hid hrt
    have f0 := Blk.frozen hTr.blk
    have e1 : IntKind.i64.wrap ((k : Int) + 1 + 1) = (k : Int) + 1 + 1 := IntWalk.i64_in _ (by omega)
    clear hl ht hf hm hkn hsq hLk hrt hTr f0
    cases hg : get T.records ((k : Int) + 1) with
    | none =>
      rw [hg] at hgo hlk
      simp only [Option.getD_none, Option.isSome_none] at hgo hlk
      have HGO := Lib.hid hgo
      clear hgo hg
      unfold o5 zeroOp at hlk
      dsimp only at hlk
      go_wp2
      go_ret2
      refine ⟨_, _, rfl, ?_, ?_, HF.out.alloc _⟩
      · rw [← HGO.out]; exact own_fr HL.out ((Fr.refl None' _).alloc _) fun _ _ h => h
      · rw [← HGO.out]; exact own_fr Ht.out ((Fr.refl None' _).alloc _) fun _ _ h => h
    | some o =>
      have hlt : k < T.records.length := by
        have := known_le T.records (k + 1) fun i h1 h2 => by
          by_cases e : i = k + 1
          · subst e
            rw [show (((k + 1 : Nat)) : Int) = (k : Int) + 1 by omega, hg]
            rfl
          · exact HKN.out i h1 (by omega)
        omega
      have HG := Lib.hid hg
      rw [hg] at hgo hlk
      simp only [Option.getD_some, Option.isSome_some] at hgo hlk
      clear hg
      obtain ⟨X, hX⟩ : ∃ X : World, X = wr.alloc (.cells #[.int .i64 o.kind, .int .i64 o.pos, .int .u8 (o.ch.toNat : Int), .int .i64 o.client, .int .i64 o.seq] OPT) := ⟨_, rfl⟩
      have HX := Lib.hid hX
      have hXf : Fr None' wr X := by rw [hX]; exact (Fr.refl _ _).alloc _
      have hO : Blk X wr.heap.size OPT #[.int .i64 o.kind, .int .i64 o.pos, .int .u8 (o.ch.toNat : Int), .int .i64 o.client, .int .i64 o.seq] := by rw [hX]; exact Blk.new _ _ _
      clear hX
      have hb := HSQ.out o.client
      have hmX := HM.out.fr hXf fun h => h
      have hsl : (Instr.lookup MI (.map (some w.heap.size)) (.int .i64 o.client) false).run Tryz.prog X = .ok (.int .i64 ((get seqs o.client).getD 0)) X := by
        have := hmX.look1 mi_under int_key mk_int o.client
        have e2 : ((get seqs o.client).map vi).getD (vi 0) = .int .i64 ((get seqs o.client).getD 0) := by cases get seqs o.client <;> rfl
        rw [e2] at this
        exact this
      have hApp := apply_any At D.length ct D o X (HRT.out.frn hXf) hct
      have HXf := Lib.hid hXf
      have HO := Lib.hid hO
      have HMX := Lib.hid hmX
      generalize hs0 : (get seqs o.client).getD 0 = s0 at *
      have HS0 := Lib.hid hs0
      have e0 : IntKind.i64.wrap (s0 + 1) = s0 + 1 := IntWalk.i64_in _ (by omega)
      have x1 : ∀ i, X.cell? ⟨wr.heap.size, i, none⟩ = (#[.int .i64 o.kind, .int .i64 o.pos, .int .u8 (o.ch.toNat : Int), .int .i64 o.client, .int .i64 o.seq] : Array Value)[i]? := fun i => Blk.cell hO i
      have HGO := Lib.hid hgo
      have HAp := Lib.hid hApp
      clear hs0 hgo hApp hXf hO hmX
      rw [HX.out] at hsl
      unfold o5 at hlk
      unfold ApplyPost opV opCells at HAp
      by_cases hs : o.seq = s0 + 1
      · have q1 : (o.seq != s0 + 1) = false := by simpa using hs
        have HS := Lib.hid hs
        clear hs
        have hgo := HGO.out
        rw [if_pos HS.out] at hgo
        cases hap : applyF D o with
        | error cd =>
          rw [hap] at hgo HAp
          have HGO2 := Lib.hid hgo
          have hcd : (cd != 0) = true := by
            unfold applyF at hap
            split at hap
            · cases hap
            · rename_i hne
              cases hap
              simpa using hne
          clear hgo hap
          dsimp only at HAp
          go_wp2_with fail
          rw [← HX.out]
          clear hsl
          refine HAp.out.mono ?_
          rintro e1 w2 ⟨rfl, hf2⟩
          dsimp only
          have HF2 := Lib.hid hf2
          clear hf2
          go_wp2
          go_ret2
          refine ⟨_, _, rfl, ?_, ?_, (HF.out.trans' HXf.out).trans' HF2.out⟩
          · rw [← HGO2.out]; exact own_fr HL.out (HXf.out.trans' HF2.out) fun _ _ h => h
          · rw [← HGO2.out]; exact own_fr Ht.out (HXf.out.trans' HF2.out) fun _ _ h => h
        | ok D' =>
          rw [hap] at hgo HAp
          have HGO2 := Lib.hid hgo
          clear hgo hap
          dsimp only at HAp
          go_wp2_with fail
          rw [← HX.out]
          clear hsl
          refine HAp.out.mono ?_
          rintro e1 w2 ⟨vt', rfl, hD, hf2⟩
          dsimp only
          have hO2 := HO.out.fr hf2 fun h => h
          have hm2 := HMX.out.fr hf2 fun h => h
          have HF2 := Lib.hid ((HF.out.trans' HXf.out).trans' hf2)
          have hL2 := own_fr HL.out (HXf.out.trans' hf2) fun _ _ h => h
          have hsl : (Instr.lookup MI (.map (some w.heap.size)) (.int .i64 o.client) false).run Tryz.prog w2 = .ok (.int .i64 s0) w2 := by
            have := hm2.look1 mi_under int_key mk_int o.client
            have e2 : ((get seqs o.client).map vi).getD (vi 0) = .int .i64 s0 := by rw [← HS0.out]; cases get seqs o.client <;> rfl
            rw [e2] at this
            exact this
          have hD2 := own_mono (b' := w.heap.size) hD (Nat.le_trans HF.out.size HXf.out.size)
          obtain ⟨w3, hw3⟩ : ∃ w3, w3 = mapSet vi vi w2 w.heap.size (put seqs o.client (s0 + 1)) := ⟨_, rfl⟩
          have hup : (Instr.mapUpdate MI (.map (some w.heap.size)) (.int .i64 o.client) (.int .i64 (s0 + 1))).run Tryz.prog w2 = .ok () w3 := by rw [hw3]; exact hm2.update mi_under int_key o.client (s0 + 1)
          have hf3 : Fr (Only w.heap.size) w2 w3 := by rw [hw3]; exact Fr.mapSet (S := Only w.heap.size) (Fr.refl _ _) (.inr (show Only w.heap.size w.heap.size from rfl)) _
          have hm3 : MapAt vi vi w3 w.heap.size (put seqs o.client (s0 + 1)) := by rw [hw3]; exact hm2.set _
          clear hw3
          have hne : ∀ k t cs, Blk w2 k t cs → k ≠ w.heap.size := fun k t cs hb e => by
            subst e
            have h1 : w2.heap[w.heap.size]? = some (.cells cs t (0, 0)) := hb
            have h2 : w2.heap[w.heap.size]? = _ := hm2
            rw [h1] at h2
            cases h2
          have hO3 := hO2.fr hf3 (hne _ _ _ hO2)
          have hL3 := own_fr hL2 hf3 fun k hk e => by
            obtain ⟨cs, hcs⟩ := own_block hL2 hk
            exact hne _ _ _ hcs e
          have hD3 := own_fr hD2 hf3 fun k hk e => by
            obtain ⟨cs, hcs⟩ := own_block hD2 hk
            exact hne _ _ _ hcs e
          have HF3 := Lib.hid (HF2.out.trans hf3 fun i hi hs => by unfold Only at hs; omega)
          have hx3 : Fr None' w3 (w3.alloc (.cells #[.int .i64 o.kind, .int .i64 o.pos, .int .u8 (o.ch.toNat : Int), .int .i64 o.client, .int .i64 o.seq] OPT)) := (Fr.refl _ _).alloc _
          obtain ⟨vl', w4, r4, o4, f4, at4⟩ := app_any (P := Tryz.prog) (t := OL) (ty := 30) (e := OPT) (size := 5) (bytes := 40) Tryz.underlying30 op_info rfl (by omega) (own_fr hL3 hx3 fun _ _ h => h) (one_reads w3 OPT [.int .i64 o.kind, .int .i64 o.pos, .int .u8 (o.ch.toNat : Int), .int .i64 o.client, .int .i64 o.seq]) (c := 1) (by have := ops_one [o]; unfold ops at this; simpa [opCells] using this) (by rw [HLk.out]; omega) (by omega) (HF3.out.alloc _).size
          have x2 : ∀ i, w2.cell? ⟨wr.heap.size, i, none⟩ = (#[.int .i64 o.kind, .int .i64 o.pos, .int .u8 (o.ch.toNat : Int), .int .i64 o.client, .int .i64 o.seq] : Array Value)[i]? := fun i => Blk.cell hO2 i
          have x3 : ∀ i, w3.cell? ⟨wr.heap.size, i, none⟩ = (#[.int .i64 o.kind, .int .i64 o.pos, .int .u8 (o.ch.toNat : Int), .int .i64 o.client, .int .i64 o.seq] : Array Value)[i]? := fun i => Blk.cell hO3 i
          have HNew : Hid (Stood w w.heap.size (k + 1) T.records vl' vt' w4) := by
            refine ⟨put seqs o.client (s0 + 1), L ++ [o], D', by omega, fun i h1 h2 => ?_, ?_, fun c => ?_, ?_, by rw [List.length_append, HLk.out]; rfl, ?_, ?_, ?_⟩
            · by_cases e : i = k + 1
              · subst e
                rw [show (((k + 1 : Nat)) : Int) = (k : Int) + 1 by omega, HG.out]
                rfl
              · exact HKN.out i h1 (by omega)
            · refine (hm3.fr hx3 fun h => h).fr f4 fun e => ?_
              obtain ⟨cs, hcs⟩ := own_block hL3 e
              have h2 : w3.heap[w.heap.size]? = _ := hm3
              rw [hcs] at h2
              cases h2
            · rw [get_put]
              by_cases e : o.client = c
              · rw [if_pos e]; simp; omega
              · rw [if_neg e]
                have := HSQ.out c
                omega
            · rw [List.length_append]
              have e : ops (L ++ [o]) = ops L ++ [.int .i64 o.kind, .int .i64 o.pos, .int .u8 (o.ch.toNat : Int), .int .i64 o.client, .int .i64 o.seq] := by simp [ops, opCells]
              rw [e]
              exact o4
            · refine own_fr (own_fr hD3 hx3 fun _ _ h => h) f4 fun j hj e => ?_
              obtain ⟨cs, hcs⟩ := own_block hD3 hj
              obtain ⟨cs', hcs'⟩ := own_block hL3 e
              rw [hcs] at hcs'
              cases hcs'
            · exact (HF3.out.alloc _).trans f4 fun j hj hs => by have := (hL3.lt j hs).1; omega
            · have h := HGO2.out
              rw [← h]
              have e : T.records.length + 1 - (k + 1) = T.records.length - k := by omega
              have e2 : (((k + 1 : Nat) : Int) + 1) = (k : Int) + 1 + 1 := by omega
              rw [e, e2]
          clear hO2 hm2 hL2 hD2 hD hf2 hf3 hm3 hO3 hL3 hD3 hx3 o4 f4 at4 hne
          go_wp2_with (at_builtin; refine wpList_app rfl _ _ _ rfl rfl rfl r4 ?_)
          go_round
          case rel => exact ⟨k + 1, by simp, HNew.out⟩
          case measure => simp [intOf]; omega
      · have q1 : (o.seq != s0 + 1) = true := by simpa using hs
        have HGO2 : Hid ((L, D) = standF T.records) := by
          have := HGO.out
          rw [if_neg hs] at this
          exact this
        clear hs
        go_wp2
        go_ret2
        refine ⟨_, _, rfl, ?_, ?_, HF.out.alloc _⟩
        · rw [← HGO2.out]; exact own_fr HL.out ((Fr.refl None' _).alloc _) fun _ _ h => h
        · rw [← HGO2.out]; exact own_fr Ht.out ((Fr.refl None' _).alloc _) fun _ _ h => h
end Go.Proofs.YtodkhoclbhdihaaGreatDoor

/-
  A guarded call in a region that draws its order. No program in it.
-/
namespace Go.Proofs.YtodkhoclbhdihaaGreatDoor

section
variable {P : Program} {md : Region.Mode} {ops : Array Oper} {Q : Exit → Act → World → Prop} {C : World → Prop} {St : World → World → Prop}
theorem wpS_callG (hr : ∀ a, St a a) (ht : ∀ a b c, St a b → St b c → St a c) (hsel : Region.noSelect ops = true) (i : Nat) {o : Oper} (ho : ops[i]? = some o) {f : Nat} {listed : Array Bool} {a : Act} {w : World}
    (hB : headsB md ops i 1 listed = true) (hg : Region.wanted o (yielded ops a.tmps) = true) (fn : FuncId) (args : Array Value) (v : Value)
    (hx : ∀ w, (execOp a.eval o).run P w = .ok (.enter fn args) w)
    (hc : ∀ w', C w' → Calls P fn args w' fun e w2 => e = .returned v ∧ C w2 ∧ St w' w2)
    (h : wpS P md ops Q C St f (listed.setIfInBounds i true) (a.put o.dst v) w) : wpS P md ops Q C St (f + 1) listed a w := by
  simp only [headsB, Bool.and_eq_true] at hB
  obtain ⟨⟨hrd, hfr⟩, _⟩ := hB
  rw [List.contains_iff_mem] at hrd
  refine wpS_first hr ht ho (Region.noSelect_spec hsel) f listed a w (Region.free_spec ho hfr) hrd (.inl ⟨hg, fun w' hw' => ?_⟩) h
  unfold Oper.quietAt
  rw [hx]
  exact ⟨rfl, hc w' hw'⟩
theorem wpL_callG {W : World} (hsel : Region.noSelect ops = true) (i d : Nat) {o : Oper} (ho : ops[i]? = some o) (hd : o.dst = some d) {f : Nat} {listed : Array Bool} {tl : List Value} {ds : List Deferred} {w : World}
    (hB : headsB .any ops i 1 listed = true) (hg : Region.wanted o (yielded ops tl.toArray) = true) (fn : FuncId) (args : Array Value) (v : Value)
    (hx : ∀ w, (execOp (Act.eval ⟨tl.toArray, ds⟩) o).run P w = .ok (.enter fn args) w)
    (hc : ∀ w', Fr None' W w' → Calls P fn args w' fun e w2 => e = .returned v ∧ Fr None' w' w2)
    (h : wpL P ops Q W f (listed.setIfInBounds i true) ⟨(tl.set d v).toArray, ds⟩ w) : wpL P ops Q W (f + 1) listed ⟨tl.toArray, ds⟩ w :=
  wpS_callG (Fr.refl _) Fr.tr hsel i ho hB hg fn args v hx (fun w' hw' => (hc w' hw'.fr).mono fun _ _ ⟨h1, h2⟩ => ⟨h1, LC.mk (hw'.fr.trans' h2), h2⟩) (by
    rw [hd]
    simpa [Act.put] using h)
end
end Go.Proofs.YtodkhoclbhdihaaGreatDoor

/-
  Contract of tap's fitsEdit.
-/
namespace Go.Proofs.YtodkhoclbhdihaaGreatDoor
open Go.RowKit

theorem fitsEd_eq (T : GTap) (x : GEdit) : fitsEd T x = ((!(get T.edits (x.op.client, x.op.seq)).isSome || decide ((get T.edits (x.op.client, x.op.seq)).getD zeroEdit = x)) &&
    (!(get T.revs (x.op.client, x.op.seq)).isSome || togetherB ((get T.records ((get T.revs (x.op.client, x.op.seq)).getD 0)).getD zeroOp) x.op)) := by
  unfold fitsEd nameOf
  cases get T.revs (x.op.client, x.op.seq) <;> cases get T.edits (x.op.client, x.op.seq) <;> simp

set_option maxHeartbeats 16000000 in
theorem fitsEd_any (a r v e : Nat) (T : GTap) (x : GEdit) (w : World) (h : TapAt w a r v e T) :
    Calls Tryz.prog 65 #[.pointer (some ⟨a, 0, none⟩), editV x] w fun ev w' => ev = .returned (.bool (fitsEd T x)) ∧ Fr None' w w' := by
  have Ht := Lib.hid together_any
  have HE := Lib.hid (fitsEd_eq T x)
  have HN := Lib.hid (neq_e6 ((get T.edits (x.op.client, x.op.seq)).getD zeroEdit) x)
  obtain ⟨X, hX⟩ : ∃ X : World, X = (w.alloc (.cells #[.int .i64 x.tag, .int .i64 x.op.kind, .int .i64 x.op.pos, .int .u8 (x.op.ch.toNat : Int), .int .i64 x.op.client, .int .i64 x.op.seq] 125)).alloc (.cells #[.int .i64 x.op.client, .int .i64 x.op.seq] 114) := ⟨_, rfl⟩
  have HX := Lib.hid hX
  have hXf : Fr None' w X := by rw [hX]; exact ((Fr.refl _ _).alloc _).alloc _
  have hTd : Blk X w.heap.size 125 #[.int .i64 x.tag, .int .i64 x.op.kind, .int .i64 x.op.pos, .int .u8 (x.op.ch.toNat : Int), .int .i64 x.op.client, .int .i64 x.op.seq] := by rw [hX]; exact (Blk.new _ _ _).alloc _
  have hNm : Blk X (w.heap.size + 1) 114 #[.int .i64 x.op.client, .int .i64 x.op.seq] := by rw [hX]; have := Blk.new (w.alloc (.cells #[.int .i64 x.tag, .int .i64 x.op.kind, .int .i64 x.op.pos, .int .u8 (x.op.ch.toNat : Int), .int .i64 x.op.client, .int .i64 x.op.seq] 125)) 114 #[.int .i64 x.op.client, .int .i64 x.op.seq]; rw [show (w.alloc (.cells #[.int .i64 x.tag, .int .i64 x.op.kind, .int .i64 x.op.pos, .int .u8 (x.op.ch.toNat : Int), .int .i64 x.op.client, .int .i64 x.op.seq] 125)).heap.size = w.heap.size + 1 by simp] at this; exact this
  clear hX
  have hT := h.frn hXf
  have Hlv := Lib.hid fun (y : World) (hx : TapAt y a r v e T) => hx.lrev x.op.client x.op.seq
  have Hle := Lib.hid fun (y : World) (hx : TapAt y a r v e T) => hx.led x.op.client x.op.seq
  have Hlr := Lib.hid fun (y : World) (hx : TapAt y a r v e T) => hx.lrec1 ((get T.revs (x.op.client, x.op.seq)).getD 0)
  have Hc := Lib.hid fun (y : World) (hx : TapAt y a r v e T) => hx.cells
  have HT := Lib.hid hT
  have HTd := Lib.hid hTd
  have HNm := Lib.hid hNm
  have HF := Lib.hid hXf
  clear h hT hTd hNm hXf
  generalize hs2 : (get T.revs (x.op.client, x.op.seq)).isSome = s2 at *
  generalize hs3 : (get T.edits (x.op.client, x.op.seq)).isSome = s3 at *
  generalize (get T.revs (x.op.client, x.op.seq)).getD 0 = r1 at *
  generalize (get T.edits (x.op.client, x.op.seq)).getD zeroEdit = d1 at *
  generalize (get T.records r1).getD zeroOp = o1 at *
  clear hs2 hs3
  generalize fitsEd T x = res at *
  have HT3 : Hid (∀ w, Calls Tryz.prog 97 #[o5 o1, o5 x.op] w fun e w' => e = .returned (.bool (togetherB o1 x.op)) ∧ Fr None' w w') := Lib.hid fun w => Ht.out o1 x.op w
  clear Ht
  generalize togetherB o1 x.op = tog at *
  unfold editV opCells o5 e6 at *
  obtain ⟨tg, k, p, ch, cl, sq⟩ := x
  obtain ⟨k1, p1, ch1, cl1, sq1⟩ := o1
  obtain ⟨t6, k6, p6, ch6, cl6, sq6⟩ := d1
  dsimp only at *
  generalize decide (GEdit.mk t6 (GOp.mk k6 p6 ch6 cl6 sq6) = GEdit.mk tg (GOp.mk k p ch cl sq)) = b3 at *
  have hn1 := HN.out
  generalize (ch.toNat : Int) = c at *
  generalize (ch1.toNat : Int) = c1 at *
  generalize (ch6.toNat : Int) = c6 at *
  cases s3
  ·
    cases s2
    ·
      go_enter Tryz.func65, Tryz.ntmps65
      go_wp2
      rw [← HX.out]
      have z1 := fun x : Later X => Hc.out _ (HT.out.frn x.fr)
      have z2 := fun x : Later X => Hle.out _ (HT.out.frn x.fr)
      have z3 : ∀ (x : Later X) i, x.w.cell? ⟨w.heap.size, i, none⟩ = (#[.int .i64 tg, .int .i64 k, .int .i64 p, .int .u8 c, .int .i64 cl, .int .i64 sq] : Array Value)[i]? := fun x i => Blk.cell (HTd.out.fr x.fr fun h => h) i
      have z4 : ∀ (x : Later X) i, x.w.cell? ⟨w.heap.size + 1, i, none⟩ = (#[.int .i64 cl, .int .i64 sq] : Array Value)[i]? := fun x i => Blk.cell (HNm.out.fr x.fr fun h => h) i
      refine wp_region_L (by kernel_rfl) ?_
      refine wpL_heads 9 0 3 (by kernel_rfl) (by kernel_rfl) ?_ (by kernel_rfl)
      simp only [List.take_succ_cons, List.take_zero, List.drop_zero]
      repeat (go_big_quiet_step (fail))
      refine wpQuiet_nil ?_
      clear z1 z2 z3 z4
      refine wpL_step 9 rfl (by kernel_rfl) (fun wa ha ha' => ?_)
      have Ha := Lib.hid ha
      clear ha ha'
      go_wp2_with fail
      refine ⟨LC.mk (Ha.out.alloc _), ?_⟩
      have hz := Blk.new wa 67 #[.int .i64 0, .int .i64 0, .int .i64 0, .int .u8 0, .int .i64 0, .int .i64 0]
      have HZ := Lib.hid hz
      refine wpL_step 10 rfl (by kernel_rfl) (fun wb hb hb' => ?_)
      have hz' := HZ.out.fr hb' fun h => h
      have HZ' := Lib.hid hz'
      have Hb := Lib.hid hb
      have y1 := fun i => Blk.cell hz' i
      have y2 := fun i => Blk.frozen hz' i
      clear hz hz' HZ hb hb'
      go_wp2_with fail
      refine ⟨LC.mk ?_, ?_⟩
      · iterate 6 refine Fr.setCell ?_ (.inl Ha.out.size) _
        exact Hb.out
      clear y1 y2
      have HC := Lib.hid ((((((HZ'.out.set_ 0 (.int .i64 t6)).set_ 1 (.int .i64 k6)).set_ 2 (.int .i64 p6)).set_ 3 (.int .u8 c6)).set_ 4 (.int .i64 cl6)).set_ 5 (.int .i64 sq6))
      refine wpL_step 11 rfl (by kernel_rfl) (fun wc hc1 hc1' => ?_)
      have Hc1 := Lib.hid hc1
      have Hc2 := Lib.hid hc1'
      clear hc1 hc1'
      go_wp2_with fail
      refine ⟨LC.mk Hc1.out, ?_⟩
      refine wpL_done (by kernel_rfl) (fun w2 hc hc' => ?_)
      have HB2 : Hid (Blk w2 wa.heap.size 67 #[.int .i64 t6, .int .i64 k6, .int .i64 p6, .int .u8 c6, .int .i64 cl6, .int .i64 sq6]) := Lib.hid (by have := ((HC.out.fr Hc2.out fun h => h).fr hc' fun h => h); simpa using this)
      have HF2 := Lib.hid hc
      clear Hb HZ' HC Hc1 Hc2 hc hc'
      have HT2 := Lib.hid (HT.out.frn HF2.out)
      have u1 := Hc.out _ HT2.out
      have u3 := fun n => Hlv.out _ (HT2.out.frn ((Fr.refl _ _).drewN n))
      have u4 : ∀ i, w2.cell? ⟨w.heap.size, i, none⟩ = (#[.int .i64 tg, .int .i64 k, .int .i64 p, .int .u8 c, .int .i64 cl, .int .i64 sq] : Array Value)[i]? := fun i => Blk.cell (HTd.out.fr HF2.out fun h => h) i
      have u5 : ∀ i, w2.cell? ⟨w.heap.size + 1, i, none⟩ = (#[.int .i64 cl, .int .i64 sq] : Array Value)[i]? := fun i => Blk.cell (HNm.out.fr HF2.out fun h => h) i
      have u6 : ∀ i, w2.cell? ⟨wa.heap.size, i, none⟩ = (#[.int .i64 t6, .int .i64 k6, .int .i64 p6, .int .u8 c6, .int .i64 cl6, .int .i64 sq6] : Array Value)[i]? := fun i => Blk.cell HB2.out i
      go_wp2
      go_quiet (fail)
      clear u3
      go_wp2
      go_quiet (fail)
      go_wp2
      go_ret
      exact ⟨retB (by rw [HE.out]; simp), ((HF.out.trans' HF2.out).drewN _).trans' ((Fr.refl _ _).drewN _)⟩
    ·
      go_enter Tryz.func65, Tryz.ntmps65
      go_wp2
      rw [← HX.out]
      have z1 := fun x : Later X => Hc.out _ (HT.out.frn x.fr)
      have z2 := fun x : Later X => Hle.out _ (HT.out.frn x.fr)
      have z3 : ∀ (x : Later X) i, x.w.cell? ⟨w.heap.size, i, none⟩ = (#[.int .i64 tg, .int .i64 k, .int .i64 p, .int .u8 c, .int .i64 cl, .int .i64 sq] : Array Value)[i]? := fun x i => Blk.cell (HTd.out.fr x.fr fun h => h) i
      have z4 : ∀ (x : Later X) i, x.w.cell? ⟨w.heap.size + 1, i, none⟩ = (#[.int .i64 cl, .int .i64 sq] : Array Value)[i]? := fun x i => Blk.cell (HNm.out.fr x.fr fun h => h) i
      refine wp_region_L (by kernel_rfl) ?_
      refine wpL_heads 9 0 3 (by kernel_rfl) (by kernel_rfl) ?_ (by kernel_rfl)
      simp only [List.take_succ_cons, List.take_zero, List.drop_zero]
      repeat (go_big_quiet_step (fail))
      refine wpQuiet_nil ?_
      clear z1 z2 z3 z4
      refine wpL_step 9 rfl (by kernel_rfl) (fun wa ha ha' => ?_)
      have Ha := Lib.hid ha
      clear ha ha'
      go_wp2_with fail
      refine ⟨LC.mk (Ha.out.alloc _), ?_⟩
      have hz := Blk.new wa 67 #[.int .i64 0, .int .i64 0, .int .i64 0, .int .u8 0, .int .i64 0, .int .i64 0]
      have HZ := Lib.hid hz
      refine wpL_step 10 rfl (by kernel_rfl) (fun wb hb hb' => ?_)
      have hz' := HZ.out.fr hb' fun h => h
      have HZ' := Lib.hid hz'
      have Hb := Lib.hid hb
      have y1 := fun i => Blk.cell hz' i
      have y2 := fun i => Blk.frozen hz' i
      clear hz hz' HZ hb hb'
      go_wp2_with fail
      refine ⟨LC.mk ?_, ?_⟩
      · iterate 6 refine Fr.setCell ?_ (.inl Ha.out.size) _
        exact Hb.out
      clear y1 y2
      have HC := Lib.hid ((((((HZ'.out.set_ 0 (.int .i64 t6)).set_ 1 (.int .i64 k6)).set_ 2 (.int .i64 p6)).set_ 3 (.int .u8 c6)).set_ 4 (.int .i64 cl6)).set_ 5 (.int .i64 sq6))
      refine wpL_step 11 rfl (by kernel_rfl) (fun wc hc1 hc1' => ?_)
      have Hc1 := Lib.hid hc1
      have Hc2 := Lib.hid hc1'
      clear hc1 hc1'
      go_wp2_with fail
      refine ⟨LC.mk Hc1.out, ?_⟩
      refine wpL_done (by kernel_rfl) (fun w2 hc hc' => ?_)
      have HB2 : Hid (Blk w2 wa.heap.size 67 #[.int .i64 t6, .int .i64 k6, .int .i64 p6, .int .u8 c6, .int .i64 cl6, .int .i64 sq6]) := Lib.hid (by have := ((HC.out.fr Hc2.out fun h => h).fr hc' fun h => h); simpa using this)
      have HF2 := Lib.hid hc
      clear Hb HZ' HC Hc1 Hc2 hc hc'
      have HT2 := Lib.hid (HT.out.frn HF2.out)
      have u1 := Hc.out _ HT2.out
      have u3 := fun n => Hlv.out _ (HT2.out.frn ((Fr.refl _ _).drewN n))
      have u4 : ∀ i, w2.cell? ⟨w.heap.size, i, none⟩ = (#[.int .i64 tg, .int .i64 k, .int .i64 p, .int .u8 c, .int .i64 cl, .int .i64 sq] : Array Value)[i]? := fun i => Blk.cell (HTd.out.fr HF2.out fun h => h) i
      have u5 : ∀ i, w2.cell? ⟨w.heap.size + 1, i, none⟩ = (#[.int .i64 cl, .int .i64 sq] : Array Value)[i]? := fun i => Blk.cell (HNm.out.fr HF2.out fun h => h) i
      have u6 : ∀ i, w2.cell? ⟨wa.heap.size, i, none⟩ = (#[.int .i64 t6, .int .i64 k6, .int .i64 p6, .int .u8 c6, .int .i64 cl6, .int .i64 sq6] : Array Value)[i]? := fun i => Blk.cell HB2.out i
      go_wp2
      go_quiet (fail)
      clear u3
      go_wp2
      have HT8 := Lib.hid (HT2.out.frn ((Fr.refl _ _).drewN nq))
      have HTd8 := Lib.hid ((HTd.out.fr HF2.out fun h => h).drewN nq)
      have HF8 := Lib.hid ((HF.out.trans' HF2.out).drewN nq)
      clear u1 u4 u5 u6 HB2 HF2 HT2
      generalize w2.drewN nq = X8 at *
      have z1 := fun x : Later X8 => Hc.out _ (HT8.out.frn x.fr)
      have z2 := fun x : Later X8 => Hlr.out _ (HT8.out.frn x.fr)
      have z3 : ∀ (x : Later X8) i, x.w.cell? ⟨w.heap.size, i, none⟩ = (#[.int .i64 tg, .int .i64 k, .int .i64 p, .int .u8 c, .int .i64 cl, .int .i64 sq] : Array Value)[i]? := fun x i => Blk.cell (HTd8.out.fr x.fr fun h => h) i
      refine wp_region_L (by kernel_rfl) ?_
      refine wpL_heads 12 0 3 (by kernel_rfl) (by kernel_rfl) ?_ (by kernel_rfl)
      simp only [List.take_succ_cons, List.take_zero, List.drop_zero]
      repeat (go_big_quiet_step (fail))
      refine wpQuiet_nil ?_
      refine wpL_callG (by kernel_rfl) 12 56 rfl rfl (by kernel_rfl) (by rfl) _ _ _ (by intro w; simp [go_sem]) (fun w' _ => HT3.out w') ?_
      simp only [List.set_cons_succ, List.set_cons_zero]
      refine wpL_heads 2 13 0 (by kernel_rfl) (by kernel_rfl) ?_ (by kernel_rfl)
      simp only [List.take_succ_cons, List.take_zero, List.drop_succ_cons, List.drop_zero]
      repeat (go_big_quiet_step (fail))
      refine wpQuiet_nil ?_
      clear z1 z2 z3
      refine wpL_done (by kernel_rfl) (fun w9 hc hc' => ?_)
      have HF9 := Lib.hid (HF8.out.trans' hc)
      clear hc hc'
      go_wp2
      go_ret
      exact ⟨retB (by rw [HE.out]; simp), HF9.out⟩
  · cases b3
    ·
      go_enter Tryz.func65, Tryz.ntmps65
      go_wp2
      rw [← HX.out]
      have z1 := fun x : Later X => Hc.out _ (HT.out.frn x.fr)
      have z2 := fun x : Later X => Hle.out _ (HT.out.frn x.fr)
      have z3 : ∀ (x : Later X) i, x.w.cell? ⟨w.heap.size, i, none⟩ = (#[.int .i64 tg, .int .i64 k, .int .i64 p, .int .u8 c, .int .i64 cl, .int .i64 sq] : Array Value)[i]? := fun x i => Blk.cell (HTd.out.fr x.fr fun h => h) i
      have z4 : ∀ (x : Later X) i, x.w.cell? ⟨w.heap.size + 1, i, none⟩ = (#[.int .i64 cl, .int .i64 sq] : Array Value)[i]? := fun x i => Blk.cell (HNm.out.fr x.fr fun h => h) i
      refine wp_region_L (by kernel_rfl) ?_
      refine wpL_heads 9 0 3 (by kernel_rfl) (by kernel_rfl) ?_ (by kernel_rfl)
      simp only [List.take_succ_cons, List.take_zero, List.drop_zero]
      repeat (go_big_quiet_step (fail))
      refine wpQuiet_nil ?_
      clear z1 z2 z3 z4
      refine wpL_step 9 rfl (by kernel_rfl) (fun wa ha ha' => ?_)
      have Ha := Lib.hid ha
      clear ha ha'
      go_wp2_with fail
      refine ⟨LC.mk (Ha.out.alloc _), ?_⟩
      have hz := Blk.new wa 67 #[.int .i64 0, .int .i64 0, .int .i64 0, .int .u8 0, .int .i64 0, .int .i64 0]
      have HZ := Lib.hid hz
      refine wpL_step 10 rfl (by kernel_rfl) (fun wb hb hb' => ?_)
      have hz' := HZ.out.fr hb' fun h => h
      have HZ' := Lib.hid hz'
      have Hb := Lib.hid hb
      have y1 := fun i => Blk.cell hz' i
      have y2 := fun i => Blk.frozen hz' i
      clear hz hz' HZ hb hb'
      go_wp2_with fail
      refine ⟨LC.mk ?_, ?_⟩
      · iterate 6 refine Fr.setCell ?_ (.inl Ha.out.size) _
        exact Hb.out
      clear y1 y2
      have HC := Lib.hid ((((((HZ'.out.set_ 0 (.int .i64 t6)).set_ 1 (.int .i64 k6)).set_ 2 (.int .i64 p6)).set_ 3 (.int .u8 c6)).set_ 4 (.int .i64 cl6)).set_ 5 (.int .i64 sq6))
      refine wpL_step 11 rfl (by kernel_rfl) (fun wc hc1 hc1' => ?_)
      have Hc1 := Lib.hid hc1
      have Hc2 := Lib.hid hc1'
      clear hc1 hc1'
      go_wp2_with fail
      refine ⟨LC.mk Hc1.out, ?_⟩
      refine wpL_done (by kernel_rfl) (fun w2 hc hc' => ?_)
      have HB2 : Hid (Blk w2 wa.heap.size 67 #[.int .i64 t6, .int .i64 k6, .int .i64 p6, .int .u8 c6, .int .i64 cl6, .int .i64 sq6]) := Lib.hid (by have := ((HC.out.fr Hc2.out fun h => h).fr hc' fun h => h); simpa using this)
      have HF2 := Lib.hid hc
      clear Hb HZ' HC Hc1 Hc2 hc hc'
      have HT2 := Lib.hid (HT.out.frn HF2.out)
      have u1 := Hc.out _ HT2.out
      have u3 := fun n => Hlv.out _ (HT2.out.frn ((Fr.refl _ _).drewN n))
      have u4 : ∀ i, w2.cell? ⟨w.heap.size, i, none⟩ = (#[.int .i64 tg, .int .i64 k, .int .i64 p, .int .u8 c, .int .i64 cl, .int .i64 sq] : Array Value)[i]? := fun i => Blk.cell (HTd.out.fr HF2.out fun h => h) i
      have u5 : ∀ i, w2.cell? ⟨w.heap.size + 1, i, none⟩ = (#[.int .i64 cl, .int .i64 sq] : Array Value)[i]? := fun i => Blk.cell (HNm.out.fr HF2.out fun h => h) i
      have u6 : ∀ i, w2.cell? ⟨wa.heap.size, i, none⟩ = (#[.int .i64 t6, .int .i64 k6, .int .i64 p6, .int .u8 c6, .int .i64 cl6, .int .i64 sq6] : Array Value)[i]? := fun i => Blk.cell HB2.out i
      go_wp2
      go_ret
      exact ⟨retB (by rw [HE.out]; simp), HF.out.trans' HF2.out⟩
    ·
      cases s2
      ·
        go_enter Tryz.func65, Tryz.ntmps65
        go_wp2
        rw [← HX.out]
        have z1 := fun x : Later X => Hc.out _ (HT.out.frn x.fr)
        have z2 := fun x : Later X => Hle.out _ (HT.out.frn x.fr)
        have z3 : ∀ (x : Later X) i, x.w.cell? ⟨w.heap.size, i, none⟩ = (#[.int .i64 tg, .int .i64 k, .int .i64 p, .int .u8 c, .int .i64 cl, .int .i64 sq] : Array Value)[i]? := fun x i => Blk.cell (HTd.out.fr x.fr fun h => h) i
        have z4 : ∀ (x : Later X) i, x.w.cell? ⟨w.heap.size + 1, i, none⟩ = (#[.int .i64 cl, .int .i64 sq] : Array Value)[i]? := fun x i => Blk.cell (HNm.out.fr x.fr fun h => h) i
        refine wp_region_L (by kernel_rfl) ?_
        refine wpL_heads 9 0 3 (by kernel_rfl) (by kernel_rfl) ?_ (by kernel_rfl)
        simp only [List.take_succ_cons, List.take_zero, List.drop_zero]
        repeat (go_big_quiet_step (fail))
        refine wpQuiet_nil ?_
        clear z1 z2 z3 z4
        refine wpL_step 9 rfl (by kernel_rfl) (fun wa ha ha' => ?_)
        have Ha := Lib.hid ha
        clear ha ha'
        go_wp2_with fail
        refine ⟨LC.mk (Ha.out.alloc _), ?_⟩
        have hz := Blk.new wa 67 #[.int .i64 0, .int .i64 0, .int .i64 0, .int .u8 0, .int .i64 0, .int .i64 0]
        have HZ := Lib.hid hz
        refine wpL_step 10 rfl (by kernel_rfl) (fun wb hb hb' => ?_)
        have hz' := HZ.out.fr hb' fun h => h
        have HZ' := Lib.hid hz'
        have Hb := Lib.hid hb
        have y1 := fun i => Blk.cell hz' i
        have y2 := fun i => Blk.frozen hz' i
        clear hz hz' HZ hb hb'
        go_wp2_with fail
        refine ⟨LC.mk ?_, ?_⟩
        · iterate 6 refine Fr.setCell ?_ (.inl Ha.out.size) _
          exact Hb.out
        clear y1 y2
        have HC := Lib.hid ((((((HZ'.out.set_ 0 (.int .i64 t6)).set_ 1 (.int .i64 k6)).set_ 2 (.int .i64 p6)).set_ 3 (.int .u8 c6)).set_ 4 (.int .i64 cl6)).set_ 5 (.int .i64 sq6))
        refine wpL_step 11 rfl (by kernel_rfl) (fun wc hc1 hc1' => ?_)
        have Hc1 := Lib.hid hc1
        have Hc2 := Lib.hid hc1'
        clear hc1 hc1'
        go_wp2_with fail
        refine ⟨LC.mk Hc1.out, ?_⟩
        refine wpL_done (by kernel_rfl) (fun w2 hc hc' => ?_)
        have HB2 : Hid (Blk w2 wa.heap.size 67 #[.int .i64 t6, .int .i64 k6, .int .i64 p6, .int .u8 c6, .int .i64 cl6, .int .i64 sq6]) := Lib.hid (by have := ((HC.out.fr Hc2.out fun h => h).fr hc' fun h => h); simpa using this)
        have HF2 := Lib.hid hc
        clear Hb HZ' HC Hc1 Hc2 hc hc'
        have HT2 := Lib.hid (HT.out.frn HF2.out)
        have u1 := Hc.out _ HT2.out
        have u3 := fun n => Hlv.out _ (HT2.out.frn ((Fr.refl _ _).drewN n))
        have u4 : ∀ i, w2.cell? ⟨w.heap.size, i, none⟩ = (#[.int .i64 tg, .int .i64 k, .int .i64 p, .int .u8 c, .int .i64 cl, .int .i64 sq] : Array Value)[i]? := fun i => Blk.cell (HTd.out.fr HF2.out fun h => h) i
        have u5 : ∀ i, w2.cell? ⟨w.heap.size + 1, i, none⟩ = (#[.int .i64 cl, .int .i64 sq] : Array Value)[i]? := fun i => Blk.cell (HNm.out.fr HF2.out fun h => h) i
        have u6 : ∀ i, w2.cell? ⟨wa.heap.size, i, none⟩ = (#[.int .i64 t6, .int .i64 k6, .int .i64 p6, .int .u8 c6, .int .i64 cl6, .int .i64 sq6] : Array Value)[i]? := fun i => Blk.cell HB2.out i
        go_wp2
        go_quiet (fail)
        clear u3
        go_wp2
        go_quiet (fail)
        go_wp2
        go_ret
        exact ⟨retB (by rw [HE.out]; simp), ((HF.out.trans' HF2.out).drewN _).trans' ((Fr.refl _ _).drewN _)⟩
      ·
        go_enter Tryz.func65, Tryz.ntmps65
        go_wp2
        rw [← HX.out]
        have z1 := fun x : Later X => Hc.out _ (HT.out.frn x.fr)
        have z2 := fun x : Later X => Hle.out _ (HT.out.frn x.fr)
        have z3 : ∀ (x : Later X) i, x.w.cell? ⟨w.heap.size, i, none⟩ = (#[.int .i64 tg, .int .i64 k, .int .i64 p, .int .u8 c, .int .i64 cl, .int .i64 sq] : Array Value)[i]? := fun x i => Blk.cell (HTd.out.fr x.fr fun h => h) i
        have z4 : ∀ (x : Later X) i, x.w.cell? ⟨w.heap.size + 1, i, none⟩ = (#[.int .i64 cl, .int .i64 sq] : Array Value)[i]? := fun x i => Blk.cell (HNm.out.fr x.fr fun h => h) i
        refine wp_region_L (by kernel_rfl) ?_
        refine wpL_heads 9 0 3 (by kernel_rfl) (by kernel_rfl) ?_ (by kernel_rfl)
        simp only [List.take_succ_cons, List.take_zero, List.drop_zero]
        repeat (go_big_quiet_step (fail))
        refine wpQuiet_nil ?_
        clear z1 z2 z3 z4
        refine wpL_step 9 rfl (by kernel_rfl) (fun wa ha ha' => ?_)
        have Ha := Lib.hid ha
        clear ha ha'
        go_wp2_with fail
        refine ⟨LC.mk (Ha.out.alloc _), ?_⟩
        have hz := Blk.new wa 67 #[.int .i64 0, .int .i64 0, .int .i64 0, .int .u8 0, .int .i64 0, .int .i64 0]
        have HZ := Lib.hid hz
        refine wpL_step 10 rfl (by kernel_rfl) (fun wb hb hb' => ?_)
        have hz' := HZ.out.fr hb' fun h => h
        have HZ' := Lib.hid hz'
        have Hb := Lib.hid hb
        have y1 := fun i => Blk.cell hz' i
        have y2 := fun i => Blk.frozen hz' i
        clear hz hz' HZ hb hb'
        go_wp2_with fail
        refine ⟨LC.mk ?_, ?_⟩
        · iterate 6 refine Fr.setCell ?_ (.inl Ha.out.size) _
          exact Hb.out
        clear y1 y2
        have HC := Lib.hid ((((((HZ'.out.set_ 0 (.int .i64 t6)).set_ 1 (.int .i64 k6)).set_ 2 (.int .i64 p6)).set_ 3 (.int .u8 c6)).set_ 4 (.int .i64 cl6)).set_ 5 (.int .i64 sq6))
        refine wpL_step 11 rfl (by kernel_rfl) (fun wc hc1 hc1' => ?_)
        have Hc1 := Lib.hid hc1
        have Hc2 := Lib.hid hc1'
        clear hc1 hc1'
        go_wp2_with fail
        refine ⟨LC.mk Hc1.out, ?_⟩
        refine wpL_done (by kernel_rfl) (fun w2 hc hc' => ?_)
        have HB2 : Hid (Blk w2 wa.heap.size 67 #[.int .i64 t6, .int .i64 k6, .int .i64 p6, .int .u8 c6, .int .i64 cl6, .int .i64 sq6]) := Lib.hid (by have := ((HC.out.fr Hc2.out fun h => h).fr hc' fun h => h); simpa using this)
        have HF2 := Lib.hid hc
        clear Hb HZ' HC Hc1 Hc2 hc hc'
        have HT2 := Lib.hid (HT.out.frn HF2.out)
        have u1 := Hc.out _ HT2.out
        have u3 := fun n => Hlv.out _ (HT2.out.frn ((Fr.refl _ _).drewN n))
        have u4 : ∀ i, w2.cell? ⟨w.heap.size, i, none⟩ = (#[.int .i64 tg, .int .i64 k, .int .i64 p, .int .u8 c, .int .i64 cl, .int .i64 sq] : Array Value)[i]? := fun i => Blk.cell (HTd.out.fr HF2.out fun h => h) i
        have u5 : ∀ i, w2.cell? ⟨w.heap.size + 1, i, none⟩ = (#[.int .i64 cl, .int .i64 sq] : Array Value)[i]? := fun i => Blk.cell (HNm.out.fr HF2.out fun h => h) i
        have u6 : ∀ i, w2.cell? ⟨wa.heap.size, i, none⟩ = (#[.int .i64 t6, .int .i64 k6, .int .i64 p6, .int .u8 c6, .int .i64 cl6, .int .i64 sq6] : Array Value)[i]? := fun i => Blk.cell HB2.out i
        go_wp2
        go_quiet (fail)
        clear u3
        go_wp2
        have HT8 := Lib.hid (HT2.out.frn ((Fr.refl _ _).drewN nq))
        have HTd8 := Lib.hid ((HTd.out.fr HF2.out fun h => h).drewN nq)
        have HF8 := Lib.hid ((HF.out.trans' HF2.out).drewN nq)
        clear u1 u4 u5 u6 HB2 HF2 HT2
        generalize w2.drewN nq = X8 at *
        have z1 := fun x : Later X8 => Hc.out _ (HT8.out.frn x.fr)
        have z2 := fun x : Later X8 => Hlr.out _ (HT8.out.frn x.fr)
        have z3 : ∀ (x : Later X8) i, x.w.cell? ⟨w.heap.size, i, none⟩ = (#[.int .i64 tg, .int .i64 k, .int .i64 p, .int .u8 c, .int .i64 cl, .int .i64 sq] : Array Value)[i]? := fun x i => Blk.cell (HTd8.out.fr x.fr fun h => h) i
        refine wp_region_L (by kernel_rfl) ?_
        refine wpL_heads 12 0 3 (by kernel_rfl) (by kernel_rfl) ?_ (by kernel_rfl)
        simp only [List.take_succ_cons, List.take_zero, List.drop_zero]
        repeat (go_big_quiet_step (fail))
        refine wpQuiet_nil ?_
        refine wpL_callG (by kernel_rfl) 12 56 rfl rfl (by kernel_rfl) (by rfl) _ _ _ (by intro w; simp [go_sem]) (fun w' _ => HT3.out w') ?_
        simp only [List.set_cons_succ, List.set_cons_zero]
        refine wpL_heads 2 13 0 (by kernel_rfl) (by kernel_rfl) ?_ (by kernel_rfl)
        simp only [List.take_succ_cons, List.take_zero, List.drop_succ_cons, List.drop_zero]
        repeat (go_big_quiet_step (fail))
        refine wpQuiet_nil ?_
        clear z1 z2 z3
        refine wpL_done (by kernel_rfl) (fun w9 hc hc' => ?_)
        have HF9 := Lib.hid (HF8.out.trans' hc)
        clear hc hc'
        go_wp2
        go_ret
        exact ⟨retB (by rw [HE.out]; simp), HF9.out⟩
end Go.Proofs.YtodkhoclbhdihaaGreatDoor
