/-
  What the row's list of package-level variables gives: the tables of octet and wire, and the handle of the type 'error'.
-/
import Derived.Test.YtodkhoclbhdihaaDoorRows
import Derived.Test.YtodkhoclbhdihaaDoorEnc
import Derived.ProofKit
import Derived.LaidLaws
import Derived.LaidHandle
import Derived.LaidMore
import Derived.Lib.LaidTab
import Derived.Stop.Joined
import Derived.OpenShut
namespace Go.Proofs.YtodkhoclbhdihaaDoor
open Go.ChangeShapes Go.WideShapes Go.RowKit

theorem gErr : Tryd.prog.globalNamed "errors.errorType" = some 2 := by kernel_rfl
theorem gTab : Tryd.prog.globalNamed "jotter/octet.table" = some 3 := by kernel_rfl
theorem gSize : Tryd.prog.globalNamed "jotter/wire.size" = some 1 := by kernel_rfl
theorem gShapes : Tryd.prog.globalNamed "jotter/wire.shapes" = some 0 := by kernel_rfl
theorem rtN : (Tryd.prog.cutTypes.find? (·.1 == "internal/reflectlite.rtype")).map (·.2) = some 151 := by kernel_rfl
theorem sizeN : Tryd.prog.types.size = 311 - 100 := by kernel_rfl
theorem oneRow : ((List.range (311 - 100)).filter fun t => Tryd.prog.rowNamed t [101, 114, 114, 111, 114]) = [46] := by kernel_rfl

theorem handle_of_laid {l : List (String × DataW Unit)} {W : World} (hl : ("errors.errorType", Rows.laid_errors_errorType) ∈ l) (h : handlesMet Tryd.prog l W) : ErrT W := by
  obtain ⟨name, u, ty, e1, e2, e3, e4, e5⟩ := h _ hl
  have en : name = [101, 114, 114, 111, 114] := (Option.some.inj e1).symm
  subst en
  obtain rfl := Option.some.inj (rtN.symm.trans e2)
  have hm : ty ∈ (List.range (311 - 100)).filter fun t => Tryd.prog.rowNamed t [101, 114, 114, 111, 114] := List.mem_filter.2 ⟨List.mem_range.2 (by rw [← sizeN]; exact e3), e4⟩
  rw [oneRow] at hm
  obtain rfl := List.mem_singleton.1 hm
  unfold ErrT
  have hth : typeHandle Tryd.prog 46 = .pointer (some ⟨4, 46, none⟩) := by kernel_rfl
  rw [hth] at e5
  have := World.var?_cell gErr e5 0
  simpa using this

theorem tTab : (Tryd.prog.globals[3]?).map (·.type) = some 149 := by kernel_rfl
theorem tSize : (Tryd.prog.globals[1]?).map (·.type) = some 84 := by kernel_rfl
theorem tShapes : (Tryd.prog.globals[0]?).map (·.type) = some 87 := by kernel_rfl
def sizeL : List Int := [1, 1, 1, 2, 1, 2, 2, 2, 2, 1, 2, 1, 1, 1]
def shapeD (k : Nat) : DataW Unit := .slice ((shape k).map fun z : Nat => .lit (.int .i64 (z : Int))) []
theorem addr0 {w : World} {a : Addr} {v : Value} (h : w.cell? a = some v) : a = ⟨a.block, a.off, none⟩ := by
  obtain ⟨b, o, s⟩ := a
  cases s with
  | none => rfl
  | some x =>
    unfold World.cell? at h
    split at h <;> simp at h
theorem shape_open {W : World} {fuel : Nat} {cs : List Value} {k : Nat} {p : List MemPlace} (hk : 0 < (shape k).length) (h : DataW.trod (fun _ => ()) Tryd.prog W 0 (fun _ => true) false fuel 43 cs = some (shapeD k, p)) :
    ∃ A c, cs = [.slice A (shape k).length c] ∧ RN W A (shape k).length (shape k) ∧ ∀ j, Foot A (shape k).length j → j < W.heap.size := by
  have c3 : Tryd.prog.cellsOf 3 = 1 := by kernel_rfl
  obtain ⟨a, cap, hcs, hle, hel⟩ := open_row Tryd.underlying43 c3 h
  rw [List.length_map] at hcs hle
  have hcell : ∀ i z, (shape k)[i]? = some z → W.cell? (a.add i) = some (nv z) := fun i z hz => by
    obtain ⟨v, n, q, hv, ht⟩ := hel i (.lit (.int .i64 (z : Int))) (by rw [List.getElem?_map, hz]; rfl)
    obtain ⟨y, hy1, hy2, _⟩ := DataW.trod_int Tryd.underlying3 ht
    simp only [Prod.mk.injEq, DataW.lit.injEq, Lit.int.injEq] at hy2
    rw [hv]
    simp only [List.cons.injEq, and_true] at hy1
    rw [hy1, ← hy2.1.2]
    rfl
  obtain ⟨z0, hz0⟩ : ∃ z, (shape k)[0]? = some z := ⟨_, List.getElem?_eq_getElem hk⟩
  have h0 := hcell 0 z0 hz0
  have e0 : a.add 0 = a := by simp [Addr.add]
  rw [e0] at h0
  have ha := addr0 h0
  have hb : a.block < W.heap.size := lt_of_cell h0
  refine ⟨some a, cap, hcs, ⟨by simp, fun _ => ⟨a.block, a.off, by rw [← ha], hb, fun j u hu => ?_⟩⟩, fun j hj => ?_⟩
  · rw [List.getElem?_map] at hu
    obtain ⟨z, hz, rfl⟩ := Option.map_eq_some_iff.1 hu
    have := hcell j z hz
    rw [ha] at this
    by_cases hj : j = 0
    · subst hj; simpa [Addr.add] using this
    · simpa [Addr.add, hj] using this
  · obtain ⟨_, a', e, rfl⟩ := hj
    cases e
    exact hb

theorem glb_of_laid {W : World} (h : laidMetH Tryd.prog Rows.tapWaysRow.laid W) : Glb W.heap.size W := by
  have h' : laidMet Tryd.prog [("jotter/octet.table", Rows.laid_jotter_octet_table), ("jotter/wire.size", Rows.laid_jotter_wire_size), ("jotter/wire.shapes", Rows.laid_jotter_wire_shapes)] W ∧ handlesMet Tryd.prog [("errors.errorType", Rows.laid_errors_errorType)] W := h
  obtain ⟨⟨ps, ⟨g1, t1, cs1, f1, p1, q1, hg1, ht1, hv1, hd1, ⟨g2, t2, cs2, f2, p2, q2, hg2, ht2, hv2, hd2, ⟨g3, t3, cs3, f3, p3, q3, hg3, ht3, hv3, hd3, _, _⟩, _⟩, _⟩, _, _⟩, hh⟩ := h'
  have hE := handle_of_laid (List.mem_singleton.2 rfl) hh
  obtain rfl := Option.some.inj (gTab.symm.trans hg1)
  obtain rfl := Option.some.inj (gSize.symm.trans hg2)
  obtain rfl := Option.some.inj (gShapes.symm.trans hg3)
  obtain rfl := Option.some.inj (tTab.symm.trans ht1)
  obtain rfl := Option.some.inj (tSize.symm.trans ht2)
  obtain rfl := Option.some.inj (tShapes.symm.trans ht3)
  have hc1 := Lib.cells_of_tab (k := .u32) (zs := tab.map fun x : Nat => (x : Int)) Tryd.underlying149 Tryd.underlying114 (by kernel_rfl) (by kernel_rfl) hd1
  have hc2 := Lib.cells_of_tab (k := .i64) (zs := sizeL) Tryd.underlying84 Tryd.underlying3 (by kernel_rfl) (by kernel_rfl) hd2
  have a1 : ∀ i, W.cell? ⟨3, i, none⟩ = cs1[i]? := World.var?_cell gTab hv1
  have a2 : ∀ i, W.cell? ⟨1, i, none⟩ = cs2[i]? := World.var?_cell gSize hv2
  have a3 : ∀ i, W.cell? ⟨0, i, none⟩ = cs3[i]? := World.var?_cell gShapes hv3
  have hT : Tab W := by
    have hcell : ∀ i, i < 16 → W.cell? ⟨3, i, none⟩ = some (.int .u32 ((tb i : Nat) : Int)) := fun i hi => by
      rw [a1, ← Array.getElem?_toList, hc1]
      match i, hi with
      | 0, _ | 1, _ | 2, _ | 3, _ | 4, _ | 5, _ | 6, _ | 7, _ | 8, _ | 9, _ | 10, _ | 11, _ | 12, _ | 13, _ | 14, _ | 15, _ => rfl
      | n + 16, h => exact absurd h (by omega)
    exact ⟨lt_of_cell (hcell 0 (by omega)), hcell⟩
  have hS : SizeG W := fun i hi => by
    rw [a2, ← Array.getElem?_toList, hc2]
    match i, hi with
    | 0, _ | 1, _ | 2, _ | 3, _ | 4, _ | 5, _ | 6, _ | 7, _ | 8, _ | 9, _ | 10, _ | 11, _ | 12, _ | 13, _ => rfl
  obtain ⟨xs, m1, rfl, hx1, hlen, hn3, hel⟩ := DataW.trod_array Tryd.underlying87 hd3
  have c43 : Tryd.prog.cellsOf 43 = 1 := by kernel_rfl
  rw [c43] at hel
  have hxs : xs.map (·.1) = [.nil, shapeD 1, shapeD 2, shapeD 3, shapeD 4, shapeD 5, shapeD 6] := by
    have := congrArg Prod.fst hx1
    simp only [Rows.laid_jotter_wire_shapes, DataW.agg.injEq] at this
    exact this.symm
  have hG : ShapeG W.heap.size W := fun k hk => by
    have hk' := hel k hk
    rw [Nat.mul_one] at hk'
    have hxk : (xs[k]?).map (·.1) = ([.nil, shapeD 1, shapeD 2, shapeD 3, shapeD 4, shapeD 5, shapeD 6] : List (DataW Unit))[k]? := by rw [← hxs, List.getElem?_map]
    have hcsk : ∀ v, (cs3.toList.drop k).take 1 = [v] → cs3[k]? = some v := fun v hv => by
      have := congrArg (·[0]?) hv
      simpa [List.getElem?_take, List.getElem?_drop] using this
    by_cases h0 : k = 0
    · subst h0
      cases hx : xs[0]? with
      | none => rw [hx] at hxk; cases hxk
      | some y =>
        obtain ⟨yd, yp⟩ := y
        rw [hx] at hxk hk'
        simp only [Option.map_some, List.getElem?_cons_zero, Option.some.injEq] at hxk
        subst hxk
        rcases DataW.trod_slice Tryd.underlying43 hk' with ⟨hcs, _⟩ | ⟨_, _, _, _, _, _, _, _, hx2, _⟩
        · exact ⟨none, 0, by rw [a3]; exact hcsk _ hcs, Reads.nil, fun j hj => absurd hj.1 (by decide)⟩
        · simp at hx2
    · cases hx : xs[k]? with
      | none =>
        rw [hx] at hxk
        rw [List.getElem?_eq_getElem (by simp; omega)] at hxk
        cases hxk
      | some y =>
        obtain ⟨yd, yp⟩ := y
        rw [hx] at hxk hk'
        have hyd : yd = shapeD k := by
          match k, hk, h0 with
          | 1, _, _ | 2, _, _ | 3, _, _ | 4, _, _ | 5, _, _ | 6, _, _ => exact Option.some.inj hxk
        subst hyd
        have hpos : 0 < (shape k).length := by
          match k, hk, h0 with
          | 1, _, _ | 2, _, _ | 3, _, _ | 4, _, _ | 5, _, _ | 6, _, _ => decide
        obtain ⟨A, c, h1, h2, h3⟩ := shape_open hpos hk'
        exact ⟨A, c, by rw [a3]; exact hcsk _ h1, h2, h3⟩
  have l1 := hT.1
  have l2 := lt_of_cell hE
  have l3 : 1 < W.heap.size := lt_of_cell (hS 0 (by omega))
  obtain ⟨_, _, h0, _⟩ := hG 0 (by omega)
  have l4 : 0 < W.heap.size := lt_of_cell h0
  dsimp only at l2
  exact ⟨hT, hE, hS, hG, by omega, Nat.le_refl _⟩
end Go.Proofs.YtodkhoclbhdihaaDoor
