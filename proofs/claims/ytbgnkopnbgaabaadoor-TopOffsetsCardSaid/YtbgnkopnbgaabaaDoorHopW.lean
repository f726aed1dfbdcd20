/-
  The walks of the functions of hop, of its reference, and of the laws' helpers. Conditions: the two tables lie in the cells of their variables.
-/
import Derived.Test.YtbgnkopnbgaabaaDoorProg
import Derived.Test.YtbgnkopnbgaabaaDoorHopM
import Derived.WalkKit
import Derived.WalkLawsBesides
import Derived.WalkSpells
import Derived.Deep.LoopGhost
import Derived.Lib.Hide
namespace Go.Proofs.YtbgnkopnbgaabaaDoor
open Go.RowKit

/-- What the two variables hold. -/
structure Laid (w : World) : Prop where
  table : ∀ k : Nat, k < 16 → w.cell? ⟨0, k, none⟩ = some (.int .i64 (tb k))
  places : ∀ k : Nat, k < 16 → w.cell? ⟨1, k, none⟩ = some (.int .i64 (pl k))

def slotB (a : Int) : Bool := decide (0 ≤ a) && decide (a ≤ 1000000000)
def chanB (a : Int) : Bool := decide (0 ≤ a) && decide (a < 16)
theorem slotB_yes {a : Int} (h : slotB a = true) : 0 ≤ a ∧ a ≤ 1000000000 := by simpa [slotB] using h
theorem chanB_yes {a : Int} (h : chanB a = true) : 0 ≤ a ∧ a < 16 := by simpa [chanB] using h


theorem isSlot_any (a : Int) (w : World) : Calls Tryd.prog 23 #[.int .i64 a] w fun e w' => e = .returned (.bool (slotB a)) ∧ w = w' := by
  by_cases h0 : 0 ≤ a
  · by_cases h1 : a ≤ 1000000000
    · go_enter Tryd.func23, Tryd.ntmps23
      go_wp2
      go_ret
      exact ⟨by simp [slotB]; omega, rfl⟩
    · go_enter Tryd.func23, Tryd.ntmps23
      go_wp2
      go_ret
      exact ⟨by simp [slotB]; omega, rfl⟩
  · go_enter Tryd.func23, Tryd.ntmps23
    go_wp2
    go_ret
    exact ⟨by simp [slotB]; omega, rfl⟩


theorem isChannel_any (a : Int) (w : World) : Calls Tryd.prog 24 #[.int .i64 a] w fun e w' => e = .returned (.bool (chanB a)) ∧ w = w' := by
  by_cases h0 : 0 ≤ a
  · by_cases h1 : a < 16
    · go_enter Tryd.func24, Tryd.ntmps24
      go_wp2
      go_ret
      exact ⟨by simp [chanB]; omega, rfl⟩
    · go_enter Tryd.func24, Tryd.ntmps24
      go_wp2
      go_ret
      exact ⟨by simp [chanB]; omega, rfl⟩
  · go_enter Tryd.func24, Tryd.ntmps24
    go_wp2
    go_ret
    exact ⟨by simp [chanB]; omega, rfl⟩


theorem rslot_any (a : Int) (w : World) : Calls Tryd.prog 25 #[.int .i64 a] w fun e w' => e = .returned (.bool (slotB a)) ∧ w = w' := by
  by_cases h0 : 0 ≤ a
  · by_cases h1 : a ≤ 1000000000
    · go_enter Tryd.func25, Tryd.ntmps25
      go_wp2
      go_ret
      exact ⟨by simp [slotB]; omega, rfl⟩
    · go_enter Tryd.func25, Tryd.ntmps25
      go_wp2
      go_ret
      exact ⟨by simp [slotB]; omega, rfl⟩
  · go_enter Tryd.func25, Tryd.ntmps25
    go_wp2
    go_ret
    exact ⟨by simp [slotB]; omega, rfl⟩


theorem rchannel_any (a : Int) (w : World) : Calls Tryd.prog 26 #[.int .i64 a] w fun e w' => e = .returned (.bool (chanB a)) ∧ w = w' := by
  by_cases h0 : 0 ≤ a
  · by_cases h1 : a < 16
    · go_enter Tryd.func26, Tryd.ntmps26
      go_wp2
      go_ret
      exact ⟨by simp [chanB]; omega, rfl⟩
    · go_enter Tryd.func26, Tryd.ntmps26
      go_wp2
      go_ret
      exact ⟨by simp [chanB]; omega, rfl⟩
  · go_enter Tryd.func26, Tryd.ntmps26
    go_wp2
    go_ret
    exact ⟨by simp [chanB]; omega, rfl⟩


theorem ret_int {k : IntKind} {a b : Int} (h : a = b) : Ending.returned (.int k a) = .returned (.int k b) := by rw [h]

theorem steps_any (f t : Int) (w : World) (hf0 : 0 ≤ f) (hf : f ≤ 2000000000) (ht0 : 0 ≤ t) (ht : t < 16) :
    Calls Tryd.prog 28 #[.int .i64 f, .int .i64 t] w fun e w' => e = .returned (.int .i64 ((t - f) % 16)) ∧ w = w' := by
  have h1 : -16 < (t - f).tmod 16 := Int.lt_tmod_of_pos _ (by omega)
  have h2 : (t - f).tmod 16 < 16 := Int.tmod_lt_of_pos _ (by omega)
  go_enter Tryd.func28, Tryd.ntmps28
  go_wp2
  go_ret
  exact ⟨ret_int (by have h := steps_eq f t; rw [Int.tmod_eq_emod_of_nonneg (by omega)] at h; exact h), rfl⟩

theorem channel_ok (a o : Int) (w : World) (hL : Laid w) (ha : slotB a = true) (ho : chanB o = true) :
    Calls Tryd.prog 11 #[.int .i64 a, .int .i64 o] w fun e w' => e = .returned (.tuple #[.int .i64 (ch (a + o)), .int .i64 0]) ∧ w = w' := by
  have ⟨ha0, ha1⟩ := slotB_yes ha
  have ⟨ho0, ho1⟩ := chanB_yes ho
  have hc := hL.table ((a + o) % 16).toNat (by omega)
  clear hL
  go_enter Tryd.func11, Tryd.ntmps11
  go_wp2_with (first | (go_at_call 23; refine (isSlot_any _ _).mono ?_; rintro e w' ⟨rfl, rfl⟩) | (go_at_call 24; refine (isChannel_any _ _).mono ?_; rintro e w' ⟨rfl, rfl⟩))
  go_ret2
  exact ⟨rfl, rfl⟩


theorem channel_bad (a o : Int) (w : World) (h : (slotB a && chanB o) = false) :
    Calls Tryd.prog 11 #[.int .i64 a, .int .i64 o] w fun e w' => e = .returned (.tuple #[.int .i64 0, .int .i64 1]) ∧ w = w' := by
  cases ha : slotB a with
  | false =>
    go_enter Tryd.func11, Tryd.ntmps11
    go_wp2_with (first | (go_at_call 23; refine (isSlot_any _ _).mono ?_; rintro e w' ⟨rfl, rfl⟩))
    go_ret2
    exact ⟨rfl, rfl⟩
  | true =>
    have ho : chanB o = false := by simpa [ha] using h
    clear h
    go_enter Tryd.func11, Tryd.ntmps11
    go_wp2_with (first | (go_at_call 23; refine (isSlot_any _ _).mono ?_; rintro e w' ⟨rfl, rfl⟩) | (go_at_call 24; refine (isChannel_any _ _).mono ?_; rintro e w' ⟨rfl, rfl⟩))
    go_ret2
    exact ⟨rfl, rfl⟩

theorem table_any (w : World) :
    Calls Tryd.prog 27 #[] w fun e w' => e = .returned (.slice (some ⟨w.heap.size, 0, none⟩) 16 16) ∧ w' = w.alloc (.cells (tblL.map (Value.int .i64)).toArray 3) := by
  go_enter Tryd.func27, Tryd.ntmps27
  go_wp2
  go_ret
  exact ⟨rfl, rfl⟩


/-- What was there is as it was. -/
def Kp (w w' : World) : Prop := Below w.heap.size w w'
theorem Kp.refl (w : World) : Kp w w := Below.refl _ _
theorem Kp.trans {a b c : World} (h : Kp a b) (k : Kp b c) : Kp a c := Below.trans h (Below.mono k h.size)
theorem Kp.alloc {a b : World} (h : Kp a b) (o : Obj) : Kp a (b.alloc o) := Below.alloc h h.size o
theorem Kp.cell {w w' : World} (h : Kp w w') {p : Addr} {v : Value} (hc : w.cell? p = some v) : w'.cell? p = some v :=
  (Below.cell h (World.block_lt_of_cell? w _ hc)).trans hc
theorem Laid.kp {w w' : World} (h : Laid w) (k : Kp w w') : Laid w' := ⟨fun i hi => k.cell (h.table i hi), fun i hi => k.cell (h.places i hi)⟩
theorem kp_of_eq {w w' : World} (h : w = w') : Kp w w' := h ▸ Kp.refl _

/-- The reference's table. -/
theorem rtable_any (w : World) :
    Calls Tryd.prog 27 #[] w fun e w' => e = .returned (.slice (some ⟨w.heap.size, 0, none⟩) 16 16) ∧ (Kp w w' ∧ ∀ k : Nat, k < 16 → w'.cell? ⟨w.heap.size, k, none⟩ = some (.int .i64 (tb k))) := by
  refine (table_any w).mono ?_
  rintro e w' ⟨rfl, rfl⟩
  refine ⟨rfl, (Kp.refl w).alloc _, fun k hk => ?_⟩
  have h : (tblL.map (Value.int .i64)).toArray[k]? = some (.int .i64 (tb k)) := by
    have hk' : k < tblL.length := hk
    simp [tb, List.getD, hk']
  simp only [World.cell?, World.alloc, Array.getElem?_push_size]
  simpa using h

theorem rchannelC_ok (a o : Int) (w : World) (ha : slotB a = true) (ho : chanB o = true) :
    Calls Tryd.prog 12 #[.int .i64 a, .int .i64 o] w fun e w' => e = .returned (.tuple #[.int .i64 (ch (a + o)), .int .i64 0]) ∧ Kp w w' := by
  have ⟨ha0, ha1⟩ := slotB_yes ha
  have ⟨ho0, ho1⟩ := chanB_yes ho
  go_enter Tryd.func12, Tryd.ntmps12
  go_wp2_with (first | (go_at_call 25; refine (rslot_any _ _).mono ?_; rintro e w' ⟨rfl, rfl⟩) | (go_at_call 26; refine (rchannel_any _ _).mono ?_; rintro e w' ⟨rfl, rfl⟩) | (go_at_call 27; refine (rtable_any _).mono ?_; rintro e w' ⟨rfl, hk, hc⟩; have hc1 := hc ((a + o) % 16).toNat (by omega); clear hc))
  go_ret2
  exact ⟨rfl, hk⟩

theorem rchannelC_bad (a o : Int) (w : World) (h : (slotB a && chanB o) = false) :
    Calls Tryd.prog 12 #[.int .i64 a, .int .i64 o] w fun e w' => e = .returned (.tuple #[.int .i64 0, .int .i64 1]) ∧ Kp w w' := by
  cases ha : slotB a with
  | false =>
    go_enter Tryd.func12, Tryd.ntmps12
    go_wp2_with (first | (go_at_call 25; refine (rslot_any _ _).mono ?_; rintro e w' ⟨rfl, rfl⟩))
    go_ret2
    exact ⟨rfl, Kp.refl _⟩
  | true =>
    have ho : chanB o = false := by simpa [ha] using h
    clear h
    go_enter Tryd.func12, Tryd.ntmps12
    go_wp2_with (first | (go_at_call 25; refine (rslot_any _ _).mono ?_; rintro e w' ⟨rfl, rfl⟩) | (go_at_call 26; refine (rchannel_any _ _).mono ?_; rintro e w' ⟨rfl, rfl⟩))
    go_ret2
    exact ⟨rfl, Kp.refl _⟩

theorem offset_ok (a c : Int) (w : World) (hL : Laid w) (ha : slotB a = true) (ho : chanB c = true) :
    Calls Tryd.prog 13 #[.int .i64 a, .int .i64 c] w fun e w' => e = .returned (.tuple #[.int .i64 (st a c), .int .i64 0]) ∧ w = w' := by
  have ⟨ha0, ha1⟩ := slotB_yes ha
  have ⟨ho0, ho1⟩ := chanB_yes ho
  have hc := hL.places c.toNat (by omega)
  have hp := pl_range c.toNat (by omega)
  clear hL
  go_enter Tryd.func13, Tryd.ntmps13
  go_wp2_with (first | (go_at_call 23; refine (isSlot_any _ _).mono ?_; rintro e w' ⟨rfl, rfl⟩) | (go_at_call 24; refine (isChannel_any _ _).mono ?_; rintro e w' ⟨rfl, rfl⟩) | (go_at_call 28; refine (steps_any _ _ _ (by omega) (by omega) hp.1 hp.2).mono ?_; rintro e w' ⟨rfl, rfl⟩))
  go_ret2
  exact ⟨rfl, rfl⟩

theorem offset_bad (a o : Int) (w : World) (h : (slotB a && chanB o) = false) :
    Calls Tryd.prog 13 #[.int .i64 a, .int .i64 o] w fun e w' => e = .returned (.tuple #[.int .i64 0, .int .i64 1]) ∧ w = w' := by
  cases ha : slotB a with
  | false =>
    go_enter Tryd.func13, Tryd.ntmps13
    go_wp2_with (first | (go_at_call 23; refine (isSlot_any _ _).mono ?_; rintro e w' ⟨rfl, rfl⟩))
    go_ret2
    exact ⟨rfl, rfl⟩
  | true =>
    have ho : chanB o = false := by simpa [ha] using h
    clear h
    go_enter Tryd.func13, Tryd.ntmps13
    go_wp2_with (first | (go_at_call 23; refine (isSlot_any _ _).mono ?_; rintro e w' ⟨rfl, rfl⟩) | (go_at_call 24; refine (isChannel_any _ _).mono ?_; rintro e w' ⟨rfl, rfl⟩))
    go_ret2
    exact ⟨rfl, rfl⟩

theorem wait_ok (a o c : Int) (w : World) (hL : Laid w) (ha : slotB a = true) (ho : chanB o = true) (hcc : chanB c = true) :
    Calls Tryd.prog 15 #[.int .i64 a, .int .i64 o, .int .i64 c] w fun e w' => e = .returned (.tuple #[.int .i64 (st (a + o) c), .int .i64 0]) ∧ w = w' := by
  have ⟨ha0, ha1⟩ := slotB_yes ha
  have ⟨ho0, ho1⟩ := chanB_yes ho
  have ⟨hc0, hc1⟩ := chanB_yes hcc
  have hc := hL.places c.toNat (by omega)
  have hp := pl_range c.toNat (by omega)
  clear hL
  go_enter Tryd.func15, Tryd.ntmps15
  go_wp2_with (first | (go_at_call 23; refine (isSlot_any _ _).mono ?_; rintro e w' ⟨rfl, rfl⟩) | (go_at_call 24; refine (isChannel_any _ _).mono ?_; rintro e w' ⟨rfl, rfl⟩) | (go_at_call 28; refine (steps_any _ _ _ (by omega) (by omega) hp.1 hp.2).mono ?_; rintro e w' ⟨rfl, rfl⟩))
  go_ret2
  exact ⟨rfl, rfl⟩

theorem wait_bad (a o c : Int) (w : World) (h : (slotB a && chanB o && chanB c) = false) :
    Calls Tryd.prog 15 #[.int .i64 a, .int .i64 o, .int .i64 c] w fun e w' => e = .returned (.tuple #[.int .i64 0, .int .i64 1]) ∧ w = w' := by
  cases ha : slotB a with
  | false =>
    go_enter Tryd.func15, Tryd.ntmps15
    go_wp2_with (first | (go_at_call 23; refine (isSlot_any _ _).mono ?_; rintro e w' ⟨rfl, rfl⟩))
    go_ret2
    exact ⟨rfl, rfl⟩
  | true =>
    cases ho : chanB o with
    | false =>
      clear h
      go_enter Tryd.func15, Tryd.ntmps15
      go_wp2_with (first | (go_at_call 23; refine (isSlot_any _ _).mono ?_; rintro e w' ⟨rfl, rfl⟩) | (go_at_call 24; refine (isChannel_any _ _).mono ?_; rintro e w' ⟨rfl, rfl⟩))
      go_ret2
      exact ⟨rfl, rfl⟩
    | true =>
      have hc : chanB c = false := by simpa [ha, ho] using h
      clear h
      go_enter Tryd.func15, Tryd.ntmps15
      go_wp2_with (first | (go_at_call 23; refine (isSlot_any _ _).mono ?_; rintro e w' ⟨rfl, rfl⟩) | (go_at_call 24; refine (isChannel_any _ _).mono ?_; rintro e w' ⟨rfl, rfl⟩))
      go_ret2
      exact ⟨rfl, rfl⟩

end Go.Proofs.YtbgnkopnbgaabaaDoor
