/-
  What the listed variables' condition gives: the two tables lie in the cells of their variables. No further condition.
-/
import Derived.Test.YtbgnkopnbgaabaaDoorRows
import Derived.Test.YtbgnkopnbgaabaaDoorHopK
import Derived.ProofKit
import Derived.LaidMore
import Derived.OpenShut
import Derived.Stop.Joined
import Derived.Lib.LaidTab
namespace Go.Proofs.YtbgnkopnbgaabaaDoor
open Go.ChangeShapes Go.WideShapes Go.ChangeAt Go.RowKit

theorem Tryd.own : ownKnob Tryd.prog.godebug = none := by kernel_rfl
theorem Tryd.laidOut : laidOutB Tryd.prog = true := by kernel_rfl

theorem gTable : Tryd.prog.globalNamed "slotmesh/hop.table" = some 0 := by kernel_rfl
theorem gPlaces : Tryd.prog.globalNamed "slotmesh/hop.places" = some 1 := by kernel_rfl
theorem tTable : (Tryd.prog.globals[0]?).map (·.type) = some 48 := by kernel_rfl
theorem tPlaces : (Tryd.prog.globals[1]?).map (·.type) = some 48 := by kernel_rfl

theorem cell_of_row {W : World} {name : String} {g : Nat} {cs : Array Value} {zs : List Int} (hg : Tryd.prog.globalNamed name = some g) (hv : W.var? Tryd.prog name = some cs)
    (hc : cs.toList = zs.map fun z => Value.int .i64 z) (k : Nat) (hk : k < zs.length) : W.cell? ⟨g, k, none⟩ = some (.int .i64 (zs.getD k 0)) := by
  have h := World.var?_cell hg hv k
  have e : cs[k]? = some (.int .i64 (zs.getD k 0)) := by
    rw [← Array.getElem?_toList, hc]
    simp [List.getD, hk]
  rw [h, e]

theorem of_laid2 {W : World} (h : laidMetH Tryd.prog [("slotmesh/hop.table", Rows.laid_slotmesh_hop_table), ("slotmesh/hop.places", Rows.laid_slotmesh_hop_places)] W) : Laid W := by
  rw [MakeChecks.laidMetH_plain _ _ _ (by kernel_rfl)] at h
  obtain ⟨ps, ⟨g0, t0, cs0, f0, p0, q0, hg0, ht0, hv0, hd0, ⟨g1, t1, cs1, f1, p1, q1, hg1, ht1, hv1, hd1, _, _⟩, _⟩, _, _⟩ := h
  obtain rfl := Option.some.inj (gTable.symm.trans hg0)
  obtain rfl := Option.some.inj (gPlaces.symm.trans hg1)
  obtain rfl := Option.some.inj (tTable.symm.trans ht0)
  obtain rfl := Option.some.inj (tPlaces.symm.trans ht1)
  have c0 := Lib.cells_of_tab (zs := tblL) Tryd.underlying48 Tryd.underlying3 (by kernel_rfl) (by kernel_rfl) (show DataW.trod _ Tryd.prog W 0 _ false f0 48 _ = some (Lib.tabData .i64 tblL, p0) from hd0)
  have c1 := Lib.cells_of_tab (zs := plcL) Tryd.underlying48 Tryd.underlying3 (by kernel_rfl) (by kernel_rfl) (show DataW.trod _ Tryd.prog W 0 _ false f1 48 _ = some (Lib.tabData .i64 plcL, p1) from hd1)
  exact ⟨fun k hk => cell_of_row hg0 hv0 c0 k hk, fun k hk => cell_of_row hg1 hv1 c1 k hk⟩
end Go.Proofs.YtbgnkopnbgaabaaDoor
