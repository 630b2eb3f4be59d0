/-
  The plain law behind TapOrders: what a datagram is alone tells its number but for the two ways; whether any is told in two ways, and what is known in the end, depends on which datagrams were seen alone. No memory and no program in it.
-/
import Derived.Test.YtodkhoclbhdihaaGreatDoorZ14
import Derived.Test.YtodkhoclbhdihaaGreatDoorZ12
import Derived.Test.YtodkhoclbhdihaaGreatDoorZ19
import Derived.Test.YtodkhoclbhdihaaGreatDoorZ20
namespace Go.Proofs.YtodkhoclbhdihaaGreatDoor

/-- A number that a datagram can be answered by. -/
def codeOk (n : Int) (d : Dg) (c : Int) : Prop := match aloneF n d.1 d.2.1 d.2.2 with | .bad x => c = x.1 | _ => c = 0 ∨ c = 280
theorem see_codeOk {T : GTap} {S : Item → Prop} (h : Knows T S) (d : Dg) : codeOk T.clients d (seeF T d.1 d.2.1 d.2.2).1.1 ∧ (seeF T d.1 d.2.1 d.2.2).2.clients = T.clients ∧ ∃ S', Knows (seeF T d.1 d.2.1 d.2.2).2 S' := by
  have ha := see_alone h d.1 d.2.1 d.2.2
  unfold codeOk
  cases hal : aloneF T.clients d.1 d.2.1 d.2.2 with
  | bad x => rw [hal] at ha; dsimp only at ha ⊢; rw [ha]; exact ⟨rfl, rfl, S, h⟩
  | quiet ep => rw [hal] at ha; dsimp only at ha ⊢; rw [ha]; exact ⟨.inl rfl, rfl, S, knows_epoch h _⟩
  | item ep x pl =>
    rw [hal] at ha
    dsimp only at ha ⊢
    by_cases hg : ∀ y, S y → goes x y
    · obtain ⟨h1, h2, h3, h4⟩ := ha.1 hg
      exact ⟨.inl (by rw [h1]), h4, _, h2⟩
    · have := ha.2 hg
      rw [this]
      exact ⟨.inr rfl, rfl, S, h⟩
theorem codes_agree {n : Int} {d : Dg} {c c' : Int} (h : codeOk n d c) (h' : codeOk n d c') : (c = c' ∨ c = 280 ∨ c' = 280) ∧ ((c = 0 ∨ c = 280) ↔ (c' = 0 ∨ c' = 280)) := by
  unfold codeOk at h h'
  cases hal : aloneF n d.1 d.2.1 d.2.2 with
  | bad x => rw [hal] at h h'; dsimp only at h h'; rw [h, h']; exact ⟨.inl rfl, Iff.rfl⟩
  | quiet ep => rw [hal] at h h'; dsimp only at h h'; constructor <;> omega
  | item ep x pl => rw [hal] at h h'; dsimp only at h h'; constructor <;> omega
theorem run_app (l : List Dg) (d : Dg) : ∀ T : GTap, runF T (l ++ [d]) = ((seeF (runF T l).1 d.1 d.2.1 d.2.2).2, (runF T l).2 ++ [(seeF (runF T l).1 d.1 d.2.1 d.2.2).1.1]) := by
  induction l with
  | nil => intro T; rfl
  | cons a l ih =>
    intro T
    have e : ∀ (T : GTap) (d : Dg) (l : List Dg), runF T (d :: l) = ((runF (seeF T d.1 d.2.1 d.2.2).2 l).1, (seeF T d.1 d.2.1 d.2.2).1.1 :: (runF (seeF T d.1 d.2.1 d.2.2).2 l).2) := fun _ _ _ => rfl
    rw [List.cons_append, e, ih, e]
    rfl
theorem run_knows : ∀ (l : List Dg) (T : GTap) (S : Item → Prop), Knows T S → (∃ S', Knows (runF T l).1 S') ∧ (runF T l).1.clients = T.clients
  | [], T, S, h => ⟨⟨S, h⟩, rfl⟩
  | d :: l, T, S, h => by
    obtain ⟨_, h2, S', h3⟩ := see_codeOk h d
    obtain ⟨h4, h5⟩ := run_knows l _ S' h3
    exact ⟨h4, h5.trans h2⟩
/-- The greatest of some numbers. -/
theorem fold_max (l : List Int) : ∀ e : Int, (∀ x, x = e ∨ x ∈ l → x ≤ l.foldl maxI e) ∧ (l.foldl maxI e = e ∨ l.foldl maxI e ∈ l) := by
  induction l with
  | nil => intro e; exact ⟨fun x hx => hx.elim (fun h => by rw [h]; exact Int.le_refl _) (fun h => by cases h), .inl rfl⟩
  | cons a l ih =>
    intro e
    obtain ⟨h1, h2⟩ := ih (maxI e a)
    have hm : e ≤ maxI e a ∧ a ≤ maxI e a ∧ (maxI e a = e ∨ maxI e a = a) := by unfold maxI; split <;> omega
    rw [List.foldl_cons]
    have h0 := h1 (maxI e a) (.inl rfl)
    constructor
    · intro x hx
      rcases hx with rfl | hx
      · omega
      · rcases List.mem_cons.1 hx with rfl | hx
        · omega
        · exact h1 x (.inr hx)
    · rcases h2 with h2 | h2
      · rcases hm.2.2 with h | h
        · left; rw [h2, h]
        · right; rw [h2, h]; exact List.mem_cons_self ..
      · right; exact List.mem_cons_of_mem _ h2
theorem fold_same (l l' : List Int) (e : Int) (h : ∀ x, x ∈ l ↔ x ∈ l') : l.foldl maxI e = l'.foldl maxI e := by
  obtain ⟨a1, a2⟩ := fold_max l e
  obtain ⟨b1, b2⟩ := fold_max l' e
  have h1 : l.foldl maxI e ≤ l'.foldl maxI e := b1 _ (a2.imp id fun h2 => (h _).1 h2)
  have h2 : l'.foldl maxI e ≤ l.foldl maxI e := a1 _ (b2.imp id fun h2 => (h _).2 h2)
  omega
theorem mem_items {n : Int} {l l' : List Dg} (h : ∀ d, d ∈ l ↔ d ∈ l') : (∀ x, x ∈ itemsF n l ↔ x ∈ itemsF n l') ∧ (∀ x, x ∈ epochsF n l ↔ x ∈ epochsF n l') := by
  unfold itemsF epochsF
  constructor <;> intro x <;> simp only [List.mem_filterMap] <;> constructor <;> rintro ⟨d, hd, hx⟩
  · exact ⟨d, (h d).1 hd, hx⟩
  · exact ⟨d, (h d).2 hd, hx⟩
  · exact ⟨d, (h d).1 hd, hx⟩
  · exact ⟨d, (h d).2 hd, hx⟩
theorem get_ext {κ ν : Type} [DecidableEq κ] {l l' : List (κ × ν)} (h : ∀ k v, get l k = some v ↔ get l' k = some v) (k : κ) : get l k = get l' k := by
  cases h1 : get l k with
  | none =>
    cases h2 : get l' k with
    | none => rfl
    | some v => rw [(h k v).2 h2] at h1; cases h1
  | some v => exact ((h k v).1 h1).symm
/-- The same datagrams, whatever the order and how often each: told in two ways in both or in neither; if in neither, the same is known. -/
theorem orders_law (l l' : List Dg) (T : GTap) (S : Item → Prop) (hT : Knows T S) (h : ∀ d, d ∈ l ↔ d ∈ l') :
    ((∀ c ∈ (runF T l).2, c ≠ 280) ↔ (∀ c ∈ (runF T l').2, c ≠ 280)) ∧ ((∀ c ∈ (runF T l).2, c ≠ 280) → Alike (runF T l).1 (runF T l').1) := by
  obtain ⟨a1, a2⟩ := run_law l T S hT
  obtain ⟨b1, b2⟩ := run_law l' T S hT
  obtain ⟨m1, m2⟩ := mem_items (n := T.clients) h
  have e : (∀ c ∈ (runF T l).2, c ≠ 280) ↔ (∀ c ∈ (runF T l').2, c ≠ 280) := by
    rw [a1, b1]
    constructor
    · exact fun hh x hx y hy => hh x ((m1 x).2 hx) y (hy.imp id (m1 y).2)
    · exact fun hh x hx y hy => hh x ((m1 x).1 hx) y (hy.imp id (m1 y).1)
  refine ⟨e, fun hn => ?_⟩
  obtain ⟨k1, e1, _⟩ := a2 hn
  obtain ⟨k2, e2, _⟩ := b2 (e.1 hn)
  have k2' := knows_congr k2 (S' := fun x => S x ∨ x ∈ itemsF T.clients l) fun x => ⟨fun hx => hx.imp id (m1 x).2, fun hx => hx.imp id (m1 x).1⟩
  refine ⟨by rw [e1, e2]; exact fold_same _ _ _ m2, get_ext fun r o => (k1.recs r o).trans (k2'.recs r o).symm, get_ext fun n r => (k1.revs n r).trans (k2'.revs n r).symm, get_ext fun n x => (k1.eds n x).trans (k2'.eds n x).symm⟩
theorem knows_T1 (n : Int) : Knows (T1 n) (fun x => x = .rc 1 firstOp) := by
  refine ⟨fun r o => ?_, fun m r => ?_, fun m e => ?_, ?_⟩
  · unfold T1
    simp only [get]
    constructor
    · intro h
      split at h
      · cases h; rename_i h1; subst h1; rfl
      · cases h
    · intro h
      cases h
      rfl
  · unfold T1
    simp only [get]
    constructor
    · intro h
      split at h
      · cases h; rename_i h1; exact ⟨firstOp, rfl, h1⟩
      · cases h
    · rintro ⟨o, h, rfl⟩
      cases h
      rfl
  · unfold T1
    simp only [get]
    constructor
    · intro h; cases h
    · rintro ⟨h, _⟩; cases h
  · rintro x y rfl rfl
    exact goes_self _
end Go.Proofs.YtodkhoclbhdihaaGreatDoor

/-
  The plain law behind TapOrders, second part: the second order as a list, and the numbers side by side.
-/
namespace Go.Proofs.YtodkhoclbhdihaaGreatDoor
open Go.RowKit

/-- What one datagram says. -/
def dg3 (d : GDg) : Dg := (d.fr, d.to_, d.xs)
def dg3s (ds : List GDg) : List Dg := ds.map dg3
theorem run_codes : ∀ (l : List Dg) (T : GTap) (S : Item → Prop), Knows T S → ∀ (k : Nat) (d : Dg), l[k]? = some d → ∃ c, (runF T l).2[k]? = some c ∧ codeOk T.clients d c
  | [], _, _, _, k, d, h => by simp at h
  | a :: l, T, S, hT, k, d, h => by
    obtain ⟨h1, h2, S', h3⟩ := see_codeOk hT a
    cases k with
    | zero =>
      rw [List.getElem?_cons_zero] at h
      cases h
      exact ⟨_, rfl, h1⟩
    | succ k =>
      rw [List.getElem?_cons_succ] at h
      obtain ⟨c, hc, ho⟩ := run_codes l _ S' h3 k d h
      exact ⟨c, hc, h2 ▸ ho⟩
theorem run_len : ∀ (l : List Dg) (T : GTap), (runF T l).2.length = l.length
  | [], _ => rfl
  | a :: l, T => by
    show ((seeF T a.1 a.2.1 a.2.2).1.1 :: (runF _ l).2).length = _
    rw [List.length_cons, run_len l, List.length_cons]
/-- The datagram that the second order takes in step i. -/
def at2 (l : List Dg) (O : List Int) (i : Nat) : Dg := l.getD (O.getD (i % l.length) 0).toNat (0, 0, [])
def sq2 (l : List Dg) (O : List Int) (n : Nat) : List Dg := (List.range n).map (at2 l O)
theorem sq2_succ (l : List Dg) (O : List Int) (n : Nat) : sq2 l O (n + 1) = sq2 l O n ++ [at2 l O n] := by simp [sq2, List.range_succ]
theorem sq2_mem (l : List Dg) (O : List Int) (n : Nat) (hl : l.length = n) (hO : O.length = n) (hm : ∀ x, x ∈ O ↔ 0 ≤ x ∧ x < (n : Int)) (d : Dg) : d ∈ l ↔ d ∈ sq2 l O (2 * n) := by
  subst hl
  unfold sq2
  rw [List.mem_map]
  constructor
  · intro h
    obtain ⟨i, hi, rfl⟩ := List.mem_iff_getElem.1 h
    obtain ⟨m, hmm, he⟩ := List.mem_iff_getElem.1 ((hm (i : Int)).2 (by omega))
    refine ⟨m, List.mem_range.2 (by omega), ?_⟩
    have e1 : O.getD (m % l.length) 0 = (i : Int) := by
      rw [Nat.mod_eq_of_lt (by omega), List.getD_eq_getElem?_getD, List.getElem?_eq_getElem hmm, he]
      rfl
    unfold at2
    rw [e1, List.getD_eq_getElem?_getD, show (i : Int).toNat = i by omega, List.getElem?_eq_getElem hi]
    rfl
  · rintro ⟨i, hi, rfl⟩
    have hi := List.mem_range.1 hi
    have hmod : i % l.length < l.length := Nat.mod_lt _ (by omega)
    have hx : O.getD (i % l.length) 0 ∈ O := by
      rw [List.getD_eq_getElem?_getD, List.getElem?_eq_getElem (by omega)]
      exact List.getElem_mem _
    have hb := (hm _).1 hx
    unfold at2
    rw [List.getD_eq_getElem?_getD, List.getElem?_eq_getElem (by omega)]
    exact List.getElem_mem _
theorem run_step {l l0 : List Dg} {T T' : GTap} {cs : List Int} {d : Dg} (h : runF T l0 = (T', cs)) (he : l = l0 ++ [d]) : runF T l = ((seeF T' d.1 d.2.1 d.2.2).2, cs ++ [(seeF T' d.1 d.2.1 d.2.2).1.1]) := by
  rw [he, run_app, h]
/-- A list of numbers that is filled from the front. -/
def filled (cs : List Int) (n : Nat) : List Value := cs.map vi ++ List.replicate (n - cs.length) (vi 0)
theorem filled_nil (n : Nat) : filled [] n = List.replicate n (vi 0) := by simp [filled]
theorem filled_len {cs : List Int} {n : Nat} (h : cs.length ≤ n) : (filled cs n).length = n := by simp [filled]; omega
theorem filled_set {cs : List Int} {n : Nat} (h : cs.length < n) (c : Int) : ((filled cs n).toArray).setIfInBounds cs.length (vi c) = (filled (cs ++ [c]) n).toArray := by
  rw [List.setIfInBounds_toArray]
  unfold filled
  rw [List.set_append_right _ _ (by simp)]
  have e : n - cs.length = (n - (cs ++ [c]).length) + 1 := by simp; omega
  rw [e, List.replicate_succ]
  simp
theorem filled_at {cs : List Int} {n k : Nat} {c : Int} (h : cs[k]? = some c) : (filled cs n)[k]? = some (vi c) := by
  unfold filled
  have hk := (List.getElem?_eq_some_iff.1 h).1
  rw [List.getElem?_append_left (by simpa using hk), List.getElem?_map, h]
  rfl
theorem filled_rest {cs : List Int} {n k : Nat} (h1 : cs.length ≤ k) (h : k < n) : (filled cs n)[k]? = some (vi 0) := by
  unfold filled
  rw [List.getElem?_append_right (by simpa using h1), List.getElem?_replicate, if_pos (by simp; omega)]
theorem run_mki (w : World) (n : Nat) (h : n ≤ 80) :
    (Instr.makeSlice IL (.int .i64 (n : Int)) (.int .i64 (n : Int))).run Tryz.prog w = .ok (.slice (some ⟨w.heap.size, 0, none⟩) n n) (w.alloc (.cells (filled [] n).toArray IE)) := by
  have h := run_make_row' IL IE (.int .i64 0) 8 Tryz.underlying22 shi_info rfl .i64 .i64 n (by omega) (by omega) w
  have e : madeCells #[.int .i64 0] n = (filled [] n).toArray := by
    rw [filled_nil]
    apply Array.ext
    · simp [size_madeCells]
    · intro i h1 h2
      simp [madeCells, vi, Nat.mod_one]
  rw [h, e]
theorem dg_three {ds : List GDg} {k : Nat} {d : GDg} (h : ds[k]? = some d) : (dg3s ds)[k]? = some (dg3 d) := by
  unfold dg3s
  rw [List.getElem?_map, h]
  rfl
end Go.Proofs.YtodkhoclbhdihaaGreatDoor

/-
  TapOrders, walked: every script and every list of picks gives true.
-/
namespace Go.Proofs.YtodkhoclbhdihaaGreatDoor
open Go.RowKit

/-- The blocks that the first loop writes. -/
def Wr1 (a r v e g : Nat) : Nat → Prop := fun k => Its a r v e k ∨ k = g

set_option maxRecDepth 100000 in
set_option maxHeartbeats 32000000 in
theorem orders_any (B : Nat) (n : Int) (A : Option Addr) (k c : Nat) (scr : List GScr) (Ap : Option Addr) (m mc : Nat) (ps : List Int) (w : World) (hG : Glb B w) (hs : ScriptAt w A k scr) (hk : k ≤ 140737488355328) (hp : RI w Ap m ps) (hm : m ≤ 140737488355328) :
    Calls Tryz.prog 5 #[.int .i64 n, .slice A k c, .slice Ap m mc] w fun ev w' => ev = .returned (.bool true) ∧ Fr None' w w' := by
  have Hi := Lib.hid into_gen
  have HG := Lib.hid hG
  have HP := Lib.hid hp
  obtain ⟨N, hN⟩ : ∃ N, N = 1 + n % 64 := ⟨_, rfl⟩
  have hN1 : 1 ≤ N ∧ N ≤ 64 := by omega
  have eN : IntKind.i64.wrap (1 + n % 64) = N := by rw [hN]; exact IntWalk.i64_in _ (by omega)
  have HN := Lib.hid hN1
  have HRw := Lib.hid (raw_any B None' A k c scr w hG hs hk (fun _ _ _ _ h => h) (fun _ h => h.elim))
  have HM := Lib.hid hm
  clear hG hs hN hN1 hk hp hm
  go_enter Tryz.func5, Tryz.ntmps5
  go_wp2_with (go_at_call 12; refine (Hi.out _ _ (by omega) (by omega) _).mono ?_; rintro e0 w0 ⟨rfl, rfl⟩)
  refine HRw.out.mono ?_
  rintro ev w1 ⟨A1, k1, c1, ds, rfl, hc1, h80, hdl, hrd, hft, hok, hf⟩
  dsimp only
  have HF1 := Lib.hid hf
  have HRd1 := Lib.hid hrd
  have HOk1 := Lib.hid hok
  have HDl := Lib.hid hdl
  have HFt1 : Hid (∀ j, Foot A1 k1 j → j < w1.heap.size) := Lib.hid (by
    rintro j ⟨hn, a', rfl, rfl⟩
    obtain ⟨b, off, e', hb, _⟩ := hrd.2 hn
    cases e'
    exact hb)
  clear hrd hft hok hf hdl hc1 eN HRw
  go_wp2_with fail
  refine (begun_any B N _ (HG.out.fr HF1.out fun _ h => h.elim) HN.out.1 HN.out.2).mono ?_
  rintro ev w2 ⟨a, r, v, e, rfl, hT, hlo, hf⟩
  dsimp only
  have HT2 := Lib.hid hT
  have HLo := Lib.hid hlo
  have HF12 := Lib.hid hf
  clear hT hlo hf
  go_wp2_with fail
  refine (begun_any B N _ (HG.out.fr (HF1.out.trans' HF12.out) fun _ h => h.elim) HN.out.1 HN.out.2).mono ?_
  rintro ev w3 ⟨a', r', v', e', rfl, hT, hlo, hf⟩
  dsimp only
  have HT3 := Lib.hid (HT2.out.frn hf)
  have HU3 := Lib.hid hT
  have HLp := Lib.hid hlo
  have HDj : Hid (∀ j, Its a r v e j → ¬ Its a' r' v' e' j) := Lib.hid fun j h h' => by have h1 := HT2.out.lt j h; have h2 := hlo j h'; omega
  have HF13 := Lib.hid (HF12.out.trans' hf)
  clear hT hlo hf HT2
  go_upto_region 7 with fail
  have HSh := Lib.hid (shuffled_any k1 h80 Ap m mc ps w3 (HP.out.frn (HF1.out.trans' HF13.out)) HM.out)
  go_wp2_with fail
  refine HSh.out.mono ?_
  rintro ev w4 ⟨A2, c2, O, rfl, hrO, hmO, hfO, hf⟩
  dsimp only
  clear HSh
  have HT4 := Lib.hid (HT3.out.frn hf)
  have HU4 := Lib.hid (HU3.out.frn hf)
  have HF14 := Lib.hid (HF13.out.trans' hf)
  have HRO := Lib.hid hrO
  have H34 := Lib.hid hf.size
  have HMO := Lib.hid hmO
  have HFO : Hid (∀ j, Foot A2 k1 j → w3.heap.size ≤ j ∧ j < w4.heap.size) := Lib.hid (fun j hj => ⟨hfO j hj, by
    obtain ⟨hn, a', rfl, rfl⟩ := hj
    obtain ⟨b, off, e', hb, _⟩ := hrO.2 hn
    cases e'
    exact hb⟩)
  have HUl := Lib.hid (HU3.out.lt)
  have HT3l := Lib.hid (HT3.out.lt)
  clear hrO hmO hfO hf HT3 HU3
  have hmk := run_mki w4 k1 h80
  obtain ⟨w5, hw5⟩ : ∃ w5, w5 = w4.alloc (.cells (filled [] k1).toArray IE) := ⟨_, rfl⟩
  rw [← hw5] at hmk
  obtain ⟨g, hg⟩ : ∃ g, g = w4.heap.size := ⟨_, rfl⟩
  rw [← hg] at hmk
  have HK5 : Hid (Blk w5 g IE (filled [] k1).toArray) := Lib.hid (by rw [hw5, hg]; exact Blk.new _ _ _)
  have hf45 : Fr None' w4 w5 := by rw [hw5]; exact (Fr.refl _ _).alloc _
  have HT5 := Lib.hid (HT4.out.frn hf45)
  have HU5 := Lib.hid (HU4.out.frn hf45)
  have HF15 := Lib.hid (HF14.out.trans' hf45)
  have HF5 := Lib.hid (HF1.out.trans' HF15.out)
  have HRO5 := Lib.hid (HRO.out.frn hf45)
  have HRd5 := Lib.hid (HRd1.out.frn HF15.out)
  have HG5 := Lib.hid (HG.out.fr HF5.out fun _ h => h.elim)
  have HGg : Hid (w4.heap.size = g ∧ w3.heap.size ≤ g ∧ w1.heap.size ≤ g) := Lib.hid ⟨hg.symm, by rw [hg]; exact H34.out, by rw [hg]; exact HF14.out.size⟩
  have HW5 := Lib.hid hw5
  have HGe := Lib.hid hg
  clear hw5 hf45 hg HT4 HU4
  have HAll : Hid (∀ j, Wr1 a r v e g j ∨ Its a' r' v' e' j → w1.heap.size ≤ j) := Lib.hid fun j h => by
    have h2 := HF12.out.size
    rcases h with (h | h) | h
    · exact HLo.out j h
    · rw [h]; exact HGg.out.2.2
    · have := HLp.out j h; omega
  have HB : Hid (∀ j, Wr1 a r v e g j ∨ Its a' r' v' e' j → B ≤ j) := Lib.hid fun j h => Nat.le_trans HG.out.le (Nat.le_trans HF1.out.size (HAll.out j h))
  have HTl : Hid (∀ j, Its a r v e j → j < w3.heap.size) := HT3l
  have HApart : Hid (∀ j, Its a' r' v' e' j → ¬ Wr1 a r v e g j) := Lib.hid fun j h h' => by
    rcases h' with h' | h'
    · exact HDj.out j h' h
    · have h1 := HUl.out j h; have h2 := HGg.out.2.1; omega
  have HLen : Hid ((dg3s ds).length = k1) := Lib.hid (by unfold dg3s; rw [List.length_map]; exact HDl.out)
  go_wp2_with fail
  go_loopw [12, 13] (fun t i wr => ∃ (j : Nat) (tb : Bool), j ≤ k1 ∧ t = .bool tb ∧ i = .int .i64 (j : Int) ∧ ∃ T cs, Hid (TapAt wr a r v e T) ∧ Hid (runF (T1 N) ((dg3s ds).take j) = (T, cs)) ∧ Hid (tb = true ↔ 280 ∈ cs) ∧ Hid (InvB T (j + 1)) ∧ Hid (Blk wr g IE (filled cs k1).toArray) ∧ Hid (Fr (Wr1 a r v e g) w5 wr)) (fun _ i _ => k1 - (intOf i).toNat)
  case atStart => exact ⟨0, false, Nat.zero_le _, rfl, rfl, T1 N, [], HT5, Lib.hid (by rw [List.take_zero]; rfl), Lib.hid (by simp), Lib.hid (invB_T1 N), HK5, Lib.hid (Fr.refl _ _)⟩
  case round =>
    clear HT5 HK5 hmk
    obtain ⟨j, tb, hj, rfl, rfl, T, cs, HT, HR, HTb, HIv, HK, HF⟩ := hrel
    have hcl : cs.length = j := by
      have h1 := run_len ((dg3s ds).take j) (T1 N)
      rw [HR.out, List.length_take, HLen.out] at h1
      dsimp only at h1
      omega
    have HF1r : Hid (Fr None' w1 wr) := Lib.hid (HF15.out.trans HF.out fun i hi h => by have := HAll.out i (.inl h); omega)
    have HFr : Hid (Fr None' w wr) := Lib.hid (HF1.out.trans' HF1r.out)
    by_cases hlt : j < k1
    · have hd0 : decide ((j : Int) < (k1 : Int)) = true := by simp; omega
      obtain ⟨b, off, d, rfl, hb, hd, y0, y1, y2, y3⟩ := dg_at (HRd1.out.frn HF1r.out) hlt
      have hdm : d ∈ ds := List.mem_of_getElem? hd
      have HD := Lib.hid ((HOk1.out d hdm).frn HF1r.out)
      obtain ⟨sf, hsf⟩ : ∃ sf, sf = seeF T d.fr d.to_ d.xs := ⟨_, rfl⟩
      have HR2 : Hid (runF (T1 N) ((dg3s ds).take (j + 1)) = (sf.2, cs ++ [sf.1.1])) := Lib.hid (by
        rw [hsf]
        exact run_step HR.out (d := dg3 d) (by rw [List.take_add_one, dg_three hd]; rfl))
      have HIv2 : Hid (InvB sf.2 (j + 1 + 1)) := Lib.hid (by rw [hsf]; exact invB_see HIv.out d.fr d.to_ d.xs)
      have S1 : Hid (Calls Tryz.prog 27 #[.pointer (some ⟨a, 0, none⟩), dgV d.fr d.to_ (.slice d.A d.n d.c) d.sp] wr fun ev w' => ev = .returned (.int .i64 sf.1.1) ∧ TapAt w' a r v e sf.2 ∧ Fr (Its a r v e) wr w') := Lib.hid (by
        rw [hsf]
        exact seen_big B a r v e T d.fr d.to_ d.A d.n d.c d.xs d.sp wr (HG.out.fr HFr.out fun _ h => h.elim) (fun i h => HB.out i (.inl (.inl h))) HT.out HD.out.bytes HD.out.len)
      clear hsf hd hdm HR HIv HT
      unfold dgV at S1
      obtain ⟨⟨cd, pl⟩, T2⟩ := sf
      dsimp only at S1 HR2 HIv2
      go_upto_region 13 with fail
      go_wp2_with fail
      refine S1.out.mono ?_
      rintro ev wa ⟨rfl, hT, hf⟩
      dsimp only
      have hgn : ¬ Its a r v e g := fun h => by have h1 := HTl.out g h; have h2 := HGg.out.2.1; omega
      have hK := HK.out.fr hf hgn
      have yj : wa.cell? ⟨g, j, none⟩ = some (vi 0) := by
        rw [Blk.cell hK j]
        simpa using filled_rest (cs := cs) (n := k1) (k := j) (by omega) hlt
      have yf := hK.frozen j
      have hrest : ((filled cs k1).toArray).setIfInBounds j (vi cd) = (filled (cs ++ [cd]) k1).toArray := by
        have := filled_set (cs := cs) (n := k1) (by omega) cd
        rwa [hcl] at this
      have HK2 : Hid (Blk (wa.setCell ⟨g, j, none⟩ (vi cd)) g IE (filled (cs ++ [cd]) k1).toArray) := Lib.hid (by rw [← hrest]; exact hK.set_ j _)
      have HT2 : Hid (TapAt (wa.setCell ⟨g, j, none⟩ (vi cd)) a r v e T2) := Lib.hid (hT.fr ((Fr.refl (Only g) _).setCell (.inr rfl) _) fun i hi h => hgn (by rw [← show i = g from h]; exact hi))
      have HF2 : Hid (Fr (Wr1 a r v e g) w5 (wa.setCell ⟨g, j, none⟩ (vi cd))) := Lib.hid ((HF.out.trans' (hf.weaken fun _ h => .inl h)).setCell (.inr (.inr rfl)) _)
      have yk : (wa.setCell ⟨g, j, none⟩ (vi cd)).cell? ⟨g, j, none⟩ = some (vi cd) := by
        rw [Blk.cell HK2.out j]
        have := filled_at (cs := cs ++ [cd]) (n := k1) (k := j) (c := cd) (by rw [← hcl]; simp)
        simpa using this
      unfold vi at yj yk HK2 HT2 HF2
      obtain ⟨X, hX⟩ : ∃ X, X = wa.setCell ⟨g, j, none⟩ (.int .i64 cd) := ⟨_, rfl⟩
      rw [← hX] at yk HK2 HT2 HF2
      have HX := Lib.hid hX
      clear hT hf hK hrest hgn y0 y1 y2 y3 HK HF hX
      go_upto_region 14 with fail
      rw [← HX.out]
      clear HX yj yf
      cases tb with
      | true =>
        have HTn : Hid (true = true ↔ 280 ∈ cs ++ [cd]) := Lib.hid ⟨fun _ => List.mem_append_left _ (HTb.out.1 rfl), fun _ => rfl⟩
        go_wp2_with fail
        go_roundw
        case rel => exact ⟨j + 1, _, by omega, rfl, by go_num, T2, _, HT2, HR2, HTn, HIv2, HK2, HF2⟩
        case measure => simp [intOf]; omega
      | false =>
        have HTn : Hid ((cd == 280) = true ↔ 280 ∈ cs ++ [cd]) := Lib.hid (by
          have h0 : ¬ 280 ∈ cs := fun h => by have := HTb.out.2 h; cases this
          rw [List.mem_append, List.mem_singleton, beq_iff_eq]
          exact ⟨fun h => .inr h.symm, fun h => h.elim (fun h => absurd h h0) Eq.symm⟩)
        go_wp2_with fail
        go_roundw
        case rel => exact ⟨j + 1, _, by omega, rfl, by go_num, T2, _, HT2, HR2, HTn, HIv2, HK2, HF2⟩
        case measure => simp [intOf]; omega
    · obtain rfl : k1 = j := by omega
      obtain ⟨w6, rfl⟩ : ∃ w6, w6 = wr := ⟨_, rfl⟩
      have hd0 : decide ((k1 : Int) < (k1 : Int)) = false := by simp
      have HRf : Hid (runF (T1 N) (dg3s ds) = (T, cs)) := Lib.hid (by rw [← HR.out, List.take_of_length_le (by rw [HLen.out]; exact Nat.le_refl _)])
      have HRO6 : Hid (RI w6 A2 k1 O) := Lib.hid (HRO5.out.fr HF.out fun i hi h => by
        have h1 := HFO.out i hi
        rcases h with h | h
        · have := HTl.out i h; omega
        · have := HGg.out.1; omega)
      have HU6 : Hid (TapAt w6 a' r' v' e' (T1 N)) := Lib.hid (HU5.out.fr HF.out fun i h => HApart.out i h)
      have HOl : Hid (∀ i, Foot A2 k1 i → ¬ Its a' r' v' e' i) := Lib.hid fun i hi h => by have h1 := HFO.out i hi; have := HUl.out i h; omega
      have HOlen : Hid (O.length = k1) := Lib.hid (by have h1 := HRO6.out.1; rw [List.length_map] at h1; omega)
      clear HU5 HRO5 HR
      go_wp2_with fail
      go_loopw [14, 15] (fun t i wx => ∃ (i2 : Nat) (ub : Bool), i2 ≤ 2 * k1 ∧ t = .bool ub ∧ i = .int .i64 (i2 : Int) ∧ ∃ U es, Hid (TapAt wx a' r' v' e' U) ∧ Hid (runF (T1 N) (sq2 (dg3s ds) O i2) = (U, es)) ∧ Hid (ub = true ↔ 280 ∈ es) ∧ Hid (InvB U (i2 + 1)) ∧ Hid (Fr (Its a' r' v' e') w6 wx)) (fun _ i _ => 2 * k1 - (intOf i).toNat)
      case atStart => exact ⟨0, false, Nat.zero_le _, rfl, rfl, T1 N, [], HU6, Lib.hid rfl, Lib.hid (by simp), Lib.hid (invB_T1 N), Lib.hid (Fr.refl _ _)⟩
      case round =>
        clear HU6
        obtain ⟨i2, ub, hi2, rfl, rfl, U, es, HU, HRu, HUb, HIu, HFu⟩ := hrel
        obtain ⟨wx, rfl⟩ : ∃ wx, wx = wr := ⟨_, rfl⟩
        have HF1x : Hid (Fr None' w1 wx) := Lib.hid (HF1r.out.trans HFu.out fun i hi h => by have := HAll.out i (.inr h); omega)
        have HFx : Hid (Fr None' w wx) := Lib.hid (HF1.out.trans' HF1x.out)
        have e2k : IntKind.i64.wrap (2 * (k1 : Int)) = 2 * (k1 : Int) := IntWalk.i64_in _ (by omega)
        by_cases hlt : i2 < 2 * k1
        · have hd1 : decide ((i2 : Int) < 2 * (k1 : Int)) = true := by simp; omega
          have q0 : ((k1 : Int) == 0) = false := by simp; omega
          have q1 : ¬ (k1 : Int) = 0 := by omega
          obtain ⟨q, hq⟩ : ∃ q, q = i2 % k1 := ⟨_, rfl⟩
          have hql : q < k1 := by rw [hq]; exact Nat.mod_lt _ (by omega)
          have et : IntKind.i64.wrap ((i2 : Int).tmod (k1 : Int)) = (q : Int) := by
            have h1 : (i2 : Int).tmod (k1 : Int) = ((i2 % k1 : Nat) : Int) := rfl
            rw [h1, ← hq]
            exact IntWalk.i64_in _ (by omega)
          have et2 : (i2 : Int).tmod (k1 : Int) = (q : Int) := by
            have h1 : (i2 : Int).tmod (k1 : Int) = ((i2 % k1 : Nat) : Int) := rfl
            rw [h1, ← hq]
          obtain ⟨ob, ooff, x, rfl, hob, hx, hxc⟩ := shi_at (HRO6.out.fr HFu.out HOl.out) hql
          have hxm := (HMO.out x).1 (List.mem_of_getElem? hx)
          obtain ⟨kk, rfl⟩ : ∃ kk : Nat, x = (kk : Int) := ⟨x.toNat, by omega⟩
          have hkk : kk < k1 := by omega
          obtain ⟨b, off, d, rfl, hb, hd, y0, y1, y2, y3⟩ := dg_at (HRd1.out.frn HF1x.out) hkk
          have hdm : d ∈ ds := List.mem_of_getElem? hd
          have HD := Lib.hid ((HOk1.out d hdm).frn HF1x.out)
          have hat : at2 (dg3s ds) O i2 = dg3 d := by
            have h1 : O.getD q 0 = (kk : Int) := by rw [List.getD_eq_getElem?_getD, hx]; rfl
            unfold at2
            rw [HLen.out, ← hq, h1, List.getD_eq_getElem?_getD, show (kk : Int).toNat = kk by omega, dg_three hd]
            rfl
          obtain ⟨cc, hcc, hco⟩ := run_codes (dg3s ds) (T1 N) _ (knows_T1 N) kk (dg3 d) (dg_three hd)
          rw [HRf.out] at hcc
          dsimp only at hcc
          obtain ⟨⟨S', hS'⟩, hcl'⟩ := run_knows (sq2 (dg3s ds) O i2) (T1 N) _ (knows_T1 N)
          rw [HRu.out] at hS' hcl'
          dsimp only at hS' hcl'
          have hce := (see_codeOk hS' (dg3 d)).1
          rw [hcl'] at hce
          have hag := codes_agree hce hco
          have ycc : wx.cell? ⟨g, kk, none⟩ = some (.int .i64 cc) := by
            rw [Blk.cell (HK.out.fr HFu.out fun h => HApart.out g h (.inr rfl)) kk]
            have := filled_at (cs := cs) (n := k1) hcc
            simpa [vi] using this
          have HKx := Lib.hid ((HK.out.fr HFu.out fun h => HApart.out g h (.inr rfl)))
          obtain ⟨sf, hsf⟩ : ∃ sf, sf = seeF U d.fr d.to_ d.xs := ⟨_, rfl⟩
          have hag2 : (sf.1.1 = cc ∨ sf.1.1 = 280 ∨ cc = 280) ∧ ((sf.1.1 = 0 ∨ sf.1.1 = 280) ↔ (cc = 0 ∨ cc = 280)) := by rw [hsf]; exact hag
          have HAg := Lib.hid hag2
          have HR2 : Hid (runF (T1 N) (sq2 (dg3s ds) O (i2 + 1)) = (sf.2, es ++ [sf.1.1])) := Lib.hid (by
            rw [hsf]
            exact run_step HRu.out (d := dg3 d) (by rw [sq2_succ, hat]))
          have HIv2 : Hid (InvB sf.2 (i2 + 1 + 1)) := Lib.hid (by rw [hsf]; exact invB_see HIu.out d.fr d.to_ d.xs)
          have S1 : Hid (Calls Tryz.prog 27 #[.pointer (some ⟨a', 0, none⟩), dgV d.fr d.to_ (.slice d.A d.n d.c) d.sp] wx fun ev w' => ev = .returned (.int .i64 sf.1.1) ∧ TapAt w' a' r' v' e' sf.2 ∧ Fr (Its a' r' v' e') wx w') := Lib.hid (by
            rw [hsf]
            exact seen_big B a' r' v' e' U d.fr d.to_ d.A d.n d.c d.xs d.sp wx (HG.out.fr HFx.out fun _ h => h.elim) (fun i h => HB.out i (.inr h)) HU.out HD.out.bytes HD.out.len)
          clear hsf hd hdm HRu HIu HU hag hag2 hce hco hcc hS' hcl' hat hx hxm hq
          unfold dgV at S1
          obtain ⟨⟨cd, pl⟩, U2⟩ := sf
          dsimp only at S1 HR2 HIv2 HAg
          go_upto_region 20 with fail
          go_wp2_with fail
          refine S1.out.mono ?_
          rintro ev wb ⟨rfl, hT, hf⟩
          dsimp only
          have yc2 : wb.cell? ⟨g, kk, none⟩ = some (.int .i64 cc) := by rw [← ycc, Blk.cell HKx.out kk, Blk.cell (HKx.out.fr hf fun h => HApart.out g h (.inr rfl)) kk]
          have HUn := Lib.hid hT
          have HFn := Lib.hid (HFu.out.trans' hf)
          obtain ⟨u2, hu2⟩ : ∃ u2, u2 = (ub || (cd == 280)) := ⟨_, rfl⟩
          have HU2 := Lib.hid hu2
          have HTn : Hid (u2 = true ↔ 280 ∈ es ++ [cd]) := Lib.hid (by
            rw [hu2, List.mem_append, List.mem_singleton, Bool.or_eq_true, HUb.out, beq_iff_eq]
            exact ⟨fun h => h.imp id Eq.symm, fun h => h.imp id Eq.symm⟩)
          clear hu2
          clear hT hf ycc y0 y1 y2 y3 hxc S1 HFu et et2 q0 q1 e2k hd1 hd0 HKx
          go_upto_region 21 with fail
          go_cut [14] (fun s wy => s = .bool u2 ∧ wy = wb)
          case first =>
            cases ub
            all_goals
              go_wp2_with fail
              go_meet
              exact ⟨by rw [HU2.out]; first | rfl | simp, rfl⟩
          case rest =>
            obtain ⟨rfl, hw⟩ := hcut
            subst hw
            go_upto_region 22 with fail
            go_cut [104] (fun s wy => s = .bool false ∧ wy = wc)
            case first =>
              by_cases h1 : cd = cc
              · have q1 : (cd != cc) = false := by simp [h1]
                clear h1
                go_wp2_with fail
                go_meet
                exact ⟨by first | rfl | trivial, rfl⟩
              · have q1 : (cd != cc) = true := by simpa using h1
                by_cases h2 : cd = 280
                · have q2 : (cd != 280) = false := by simp [h2]
                  clear h1 h2
                  go_wp2_with fail
                  go_meet
                  exact ⟨by first | rfl | trivial, rfl⟩
                · have q2 : (cd != 280) = true := by simpa using h2
                  have q3 : (cc != 280) = false := by
                    rcases HAg.out.1 with h | h | h
                    · exact absurd h h1
                    · exact absurd h h2
                    · simp [h]
                  clear h1 h2
                  go_wp2_with fail
                  go_meet
                  exact ⟨by first | rfl | trivial, rfl⟩
            case rest =>
              obtain ⟨rfl, hw⟩ := hcut
              subst hw
              have HA2 : Hid (((cd == 0) || (cd == 280)) = ((cc == 0) || (cc == 280))) := Lib.hid (by
                rw [Bool.eq_iff_iff, Bool.or_eq_true, Bool.or_eq_true, beq_iff_eq, beq_iff_eq, beq_iff_eq, beq_iff_eq]
                exact HAg.out.2)
              go_upto_region 24 with fail
              go_cut [123] (fun s wy => s = .bool false ∧ wy = wc)
              case first =>
                cases qa0 : (cd == 0) <;> cases qa2 : (cd == 280) <;> cases qb0 : (cc == 0) <;> cases qb2 : (cc == 280)
                all_goals first
                  | (exfalso; have h := HA2.out; rw [qa0, qa2, qb0, qb2] at h; exact absurd h (by decide))
                  | (go_wp2_with fail
                     go_meet
                     exact ⟨by first | rfl | trivial, rfl⟩)
              case rest =>
                obtain ⟨rfl, hw⟩ := hcut
                subst hw
                go_wp2_with fail
                go_roundw
                case rel => exact ⟨i2 + 1, _, by omega, rfl, by go_num, U2, _, HUn, HR2, HTn, HIv2, HFn⟩
                case measure => simp [intOf]; omega
        · have hd1 : decide ((i2 : Int) < 2 * (k1 : Int)) = false := by simp; omega
          obtain rfl : i2 = 2 * k1 := by omega
          obtain ⟨l1, l2⟩ := orders_law (dg3s ds) (sq2 (dg3s ds) O (2 * k1)) (T1 N) _ (knows_T1 N) (sq2_mem (dg3s ds) O k1 HLen.out HOlen.out HMO.out)
          rw [HRf.out, HRu.out] at l1 l2
          dsimp only at l1 l2
          have hn : ∀ l : List Int, (∀ c ∈ l, c ≠ 280) ↔ ¬ 280 ∈ l := fun l => ⟨fun h hm => h _ hm rfl, fun h c hc e => h (e ▸ hc)⟩
          rw [hn, hn] at l1
          rw [hn] at l2
          have htu : tb = ub := by
            rw [Bool.eq_iff_iff, HTb.out, HUb.out]
            constructor
            · intro h1; exact Classical.byContradiction fun h2 => l1.2 h2 h1
            · intro h1; exact Classical.byContradiction fun h2 => l1.1 h2 h1
          subst htu
          cases tb with
          | true =>
            clear l1 l2 hn
            go_wp2_with fail
            go_ret
            exact ⟨rfl, HFx.out⟩
          | false =>
            have hno : ¬ 280 ∈ cs := fun h => by have := HTb.out.2 h; cases this
            have HEq := Lib.hid (equal_same a r v e a' r' v' e' T U 200 N wx (HT.out.fr HFu.out fun i h h' => HDj.out i h h') HU.out (l2 hno) (HIv.out.up (by omega)) (HIu.out.up (by omega)) (by omega) HN.out.1 HN.out.2)
            clear l1 l2 hn hno
            go_wp2_with fail
            refine HEq.out.mono ?_
            rintro ev wz ⟨rfl, hf⟩
            dsimp only
            have HFz := Lib.hid (HFx.out.trans' hf)
            clear hf
            go_wp2
            go_ret
            exact ⟨rfl, HFz.out⟩
end Go.Proofs.YtodkhoclbhdihaaGreatDoor
