/-
  The walk of TopOffsets without radios.
-/
import Derived.Test.YtbgnkopnbgaabaaDoorOffT
namespace Go.Proofs.YtbgnkopnbgaabaaDoor
open Go.RowKit Go.Shelf

theorem same_zero (B B' : Nat) (w : World) :
    Calls Tryd.prog 21 #[.slice (some ⟨B, 0, none⟩) 0 0, .slice (some ⟨B', 0, none⟩) 0 0] w fun e w' => e = .returned (.bool true) ∧ Kp w w' := by
  go_enter Tryd.func21, Tryd.ntmps21
  go_wp2
  go_loopw [5] (fun q wr => q = .int .i64 0 ∧ Kp w wr) (fun _ _ => 0)
  case atStart => exact ⟨rfl, Kp.refl _⟩
  case round =>
    obtain ⟨rfl, hK⟩ := hrel
    go_wp2
    go_ret
    exact ⟨rfl, hK⟩

set_option maxRecDepth 100000 in
set_option maxHeartbeats 1000000 in
theorem top_zero (A : Option Addr) (c : Nat) (r m : Int) (w : World) (hr0 : 0 ≤ r) (hr : r ≤ 20000) (hm0 : 0 ≤ m) (hm : m ≤ 4294967295) (hL : LaidT w) :
    Calls Tryd.prog 8 #[.slice A 0 c, .int .i64 r, .int .u32 m] w fun e w' => e = .returned (.bool true) ∧ Kp w w' := by
  cases A
  all_goals
    go_enter Tryd.func8, Tryd.ntmps8
    go_wp2_with (go_at_call 18; refine (radios_any _ hL).mono ?_; rintro e w' ⟨rfl, hk⟩)
    rename_i w'
    go_loopw [9, 10] (fun q _ wr => q = .int .i64 0 ∧ Kp w wr) (fun _ _ _ => 0)
    case atStart => exact ⟨rfl, hk⟩
    case round =>
      obtain ⟨rfl, hK⟩ := hrel
      clear hk
      go_wp2_with fail
      refine (caught_zero _ _ _ _ _ hr0 hr (by omega) (by omega)).mono ?_
      rintro e w1 ⟨B1, rfl, k1⟩
      go_wp2_with fail
      refine (caught_zero _ _ _ _ _ hr0 hr (by omega) (by omega)).mono ?_
      rintro e w2 ⟨B2, rfl, k2⟩
      go_wp2_with fail
      refine (same_zero _ _ _).mono ?_
      rintro e w3 ⟨rfl, k3⟩
      have hK3 := ((hK.trans k1).trans k2).trans k3
      go_wp2_with fail
      go_loopw [7, 15] (fun up q wr => ∃ k : Nat, k ≤ 16 ∧ up = .bool true ∧ q = .int .i64 k ∧ Kp w3 wr) (fun _ q _ => 16 - (intOf q).toNat)
      case atStart => exact ⟨0, by omega, rfl, rfl, Kp.refl _⟩
      case round =>
        obtain ⟨k, hk, rfl, rfl, hKo⟩ := hrel
        by_cases hlt : k < 16
        · go_wp2_with fail
          go_loopw [17] (fun q wr => q = .int .i64 0 ∧ Kp w3 wr) (fun _ _ => 0)
          case atStart => exact ⟨rfl, hKo.alloc _⟩
          case round =>
            obtain ⟨rfl, hKi⟩ := hrel
            go_wp2_with fail
            refine (caught_zero _ _ _ _ _ hr0 hr (by omega) (by omega)).mono ?_
            rintro e w5 ⟨B5, rfl, k5⟩
            have hK5 := hKi.trans k5
            go_wp2_with fail
            go_loopw [7, 20] (fun up q wr => up = .bool true ∧ q = .int .i64 0 ∧ Kp w3 wr) (fun _ _ _ => 0)
            case atStart => exact ⟨rfl, rfl, hK5⟩
            case round =>
              obtain ⟨rfl, rfl, hK6⟩ := hrel
              go_wp2
              go_roundw
              case rel => exact ⟨k + 1, by omega, rfl, by simp, hK6⟩
              case measure => simp [intOf]; omega
        · go_wp2
          go_ret
          exact ⟨rfl, hK3.trans hKo⟩
end Go.Proofs.YtbgnkopnbgaabaaDoor
