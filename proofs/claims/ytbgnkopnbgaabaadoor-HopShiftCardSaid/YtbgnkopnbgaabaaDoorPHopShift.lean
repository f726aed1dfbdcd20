/-
  In the next slot a channel offset is where the one greater by 1 is in this slot, and two offsets are never on one channel. The listed package variables are tied to the program's text by the given tie; nothing else is asked of the input.
-/
import Derived.Test.YtbgnkopnbgaabaaDoorHopB
import Derived.Test.YtbgnkopnbgaabaaDoorCards
import Derived.Test.YtbgnkopnbgaabaaDoorTie
import Derived.SevenTiedAt
namespace Go.Proofs.YtbgnkopnbgaabaaDoor
open Go.ChangeShapes Go.WideShapes Go.ChangeAt Go.WideMaps Go.WideElems Go.RowKit

theorem hopShift_door (os : Os) (args : Array Value) : laidMetH Tryd.prog [("slotmesh/hop.table", Rows.laid_slotmesh_hop_table), ("slotmesh/hop.places", Rows.laid_slotmesh_hop_places)] ((World.doorLaid Tryd.prog 400 os).forCall (fun _ _ => 0) ⟨#[], args, []⟩).memory :=
  laidMetH_of_parts3 (fuel := 8) (laidMet_of_run' 8 (by kernel_rfl) (by kernel_rfl)) (by kernel_rfl) (by kernel_rfl)

set_option maxRecDepth 100000 in
theorem hopShift_lifted (os : Os) (started : os.Started) (H : Type) (enc : TypeId × Value → H) :
    ReturnsInHanded {} Tryd.checked os 9 .any (fun w args => (Rows.hopShiftSpec.pre enc Tryd.prog Tryd.f9 [] false w args ∧ laidMetH Tryd.prog [("slotmesh/hop.table", Rows.laid_slotmesh_hop_table), ("slotmesh/hop.places", Rows.laid_slotmesh_hop_places)] w) ∧ sizedMet enc Tryd.prog Tryd.f9 (OpenSpec.ofChange Rows.hopShiftSpec) false w args)
      (Rows.hopShiftSpec.post enc Tryd.prog Tryd.f9 false true false false) := by
  refine returnsInHanded_of_change_and (C := Tryd.checked) (X := fun w _ => laidMetH Tryd.prog [("slotmesh/hop.table", Rows.laid_slotmesh_hop_table), ("slotmesh/hop.places", Rows.laid_slotmesh_hop_places)] w) (fun _ _ _ hh h => h.of_heap hh) Tryd.own started (by kernel_rfl) Tryd.func9
    (ChangeSpec.witness_shaped (enc := enc) (C := Tryd.checked) (os := os) (X := fun w _ => laidMetH Tryd.prog [("slotmesh/hop.table", Rows.laid_slotmesh_hop_table), ("slotmesh/hop.places", Rows.laid_slotmesh_hop_places)] w) false (World.doorLaid Tryd.prog 400 os) #[.int .u32 0, .int .u8 0, .int .u8 0] 8 rfl (World.shaped_of_RefB (by kernel_rfl) (by kernel_rfl)) (by kernel_rfl) (by kernel_rfl) (by kernel_rfl) (hopShift_door os _)) ?_
  intro W base args ds gs before hval0 hW _ _ hL _
  have hval : ∀ (j : Nat) t v, Tryd.f9.params[j]? = some t → args[j]? = some v → Value.okWide Tryd.prog W .any base t v := hval0
  have hW' := hW
  obtain ⟨p, q, hA0, hV, rfl, hfz, hnd⟩ := hW
  have hA : DataW.TrodAll enc Tryd.prog W 0 (fun _ => true) true Tryd.f9.params.toList args.toList ds p := hA0
  rw [Tryd.params9] at hA hval
  obtain ⟨v0, v1, v2, d0, d1, d2, p0, p1, p2, rfl, rfl, rfl, h0, h1, h2⟩ := trodAll_three hA
  obtain ⟨rfl, rfl⟩ := trodVars_none hV
  obtain ⟨a, rfl, rfl, rfl, wa⟩ := open_int Tryd.underlying28 (hval 0 28 v0 rfl rfl) h0
  obtain ⟨b, rfl, rfl, rfl, wb⟩ := open_int Tryd.underlying5 (hval 1 5 v1 rfl rfl) h1
  obtain ⟨c, rfl, rfl, rfl, wc⟩ := open_int Tryd.underlying5 (hval 2 5 v2 rfl rfl) h2
  have ba := bounds_u32 wa
  have bb := bounds_u8 wb
  have bc := bounds_u8 wc
  clear hA0 hval0
  simp only [List.append_nil] at hW'
  refine (shift_any a b c W (of_laid2 hL) (by omega) (by omega) (by omega) (by omega) (by omega) (by omega) ).mono fun e W' ⟨he, hw⟩ => ?_
  subst he
  exact ⟨_, rfl, _, _, _, [], [], [], hW', trodAll_mk1 (shut_bool Tryd.underlying4 true), trodAll_mk3 (shut_int Tryd.underlying28 wa) (shut_int Tryd.underlying5 wb) (shut_int Tryd.underlying5 wc), rfl, Below.frame hw _, fun h => by cases h⟩

theorem hopShift_said : Rows.HopShiftSaid :=
  OpenClaim.holds_of_wide 9 Tryd.f9 rfl rfl rfl rfl rfl rfl rfl ⟨rfl, rfl, rfl, rfl, rfl⟩ rfl rfl rfl rfl rfl (by kernel_rfl) Tryd.func9 (by kernel_rfl)
    (of_decide_eq_true (by kernel_rfl)) (by unfold Func.isWrapper; rw [if_neg (of_decide_eq_false (by kernel_rfl))]; exact ⟨rfl, rfl⟩)
    (fun os started H enc _ => hopShift_lifted os started H enc)

theorem hopShift_holds : Rows.HopShiftCardSaid :=
  Claim7.holds_tied_plain_at .later [] [.data, .data] true (true, "a314980c81b9b9b7d5cf75b04e25b76477ed6a8584cadb7a2bebd09a454447e2") false
    hopShift_said (fun _ h => by cases h) (by kernel_rfl) (fun _ h => by cases h) hopShift_row_tie rfl ⟨rfl, rfl⟩ (by kernel_rfl) rfl
    (fun f fn hf hfn => by
      obtain rfl : f = 9 := Option.some.inj ((show Tryd.prog.funcNamed "slotmesh/slotmeshlaw11.HopShift" = some 9 by kernel_rfl).symm.trans hf) |>.symm
      obtain rfl : fn = Tryd.f9 := (Option.some.inj (Tryd.func9.symm.trans hfn)).symm
      exact ⟨by kernel_rfl, fun j t ht => by
        rw [Tryd.params9] at ht
        have hm : t ∈ [28, 5, 5] := by simpa using Array.mem_of_getElem? ht
        have hall : ([28, 5, 5].all fun u => !Tryd.prog.wantsStandIn u) = true := by kernel_rfl
        exact (show Tryd.prog.wantsStandIn t = false by simpa using List.all_eq_true.1 hall t hm)⟩)
    (by kernel_rfl)
#print axioms hopShift_holds
end Go.Proofs.YtbgnkopnbgaabaaDoor
