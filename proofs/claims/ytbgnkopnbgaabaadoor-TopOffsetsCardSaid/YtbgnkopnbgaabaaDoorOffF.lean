/-
  The plain law of the offsets: silencing the other offsets changes nothing for whoever listens on one of them; sixteen slots later all is the same; who is heard has the listener's offset. And the walks of 'Same', of the head, and of Catch without radios.
-/
import Derived.Test.YtbgnkopnbgaabaaDoorOffE
namespace Go.Proofs.YtbgnkopnbgaabaaDoor
open Go.RowKit Go.Shelf

/-- The radios, all but those of offset `o` silent. -/
def few (g : Nat → Rc) (o : Int) (k : Nat) : Rc := if (g k).f % 16 = o then g k else { g k with d := 0 }

theorem actOf_16 (a : Int) (g : Nat → Rc) : actOf (a + 16) g = actOf a g := by
  funext k
  simp only [actOf]
  rw [show a + 16 + (g k).f % 16 = a + (g k).f % 16 + 16 by omega, ch_16]
theorem plcOf_few (g : Nat → Rc) (o : Int) : plcOf (few g o) = plcOf g := by
  funext k
  unfold plcOf few
  split <;> rfl
theorem few_same (g : Nat → Rc) (o a : Int) (k : Nat) : (actOf a (few g o) k).c = (actOf a g k).c ∧ (actOf a (few g o) k).s = (actOf a g k).s ∧ (actOf a (few g o) k).l = (actOf a g k).l ∧ (actOf a (few g o) k).h = (actOf a g k).h := by
  unfold actOf few
  split <;> exact ⟨rfl, rfl, rfl, rfl⟩
theorem few_on (g : Nat → Rc) (o : Int) (k : Nat) (h : (g k).f % 16 = o) : few g o k = g k := by unfold few; rw [if_pos h]

theorem offset_of (a : Int) (g : Nat → Rc) (i k : Nat) (h : (actOf a g k).c = (actOf a g i).c) : (g k).f % 16 = (g i).f % 16 :=
  ch_inj a _ _ (by omega) (by omega) (by omega) (by omega) h

theorem hears_few (g : Nat → Rc) (o a r : Int) (i k : Nat) (hi : (g i).f % 16 = o) : hearsB (actOf a (few g o)) (plcOf g) r i k = hearsB (actOf a g) (plcOf g) r i k := by
  by_cases hk : (g k).f % 16 = o
  · have e : ∀ j, (g j).f % 16 = o → actOf a (few g o) j = actOf a g j := fun j hj => by
      have := few_on g o j hj
      unfold actOf
      rw [this]
    unfold hearsB
    rw [e k hk, e i hi]
  · have h1 : ((actOf a (few g o) k).d == 2) = false := by
      unfold actOf few
      rw [if_neg hk]
      rfl
    have h2 : ((actOf a g k).c == (actOf a g i).c) = false := by
      rw [beq_eq_false_iff_ne]
      intro e
      exact hk ((offset_of a g i k e).trans hi)
    simp only [hearsB, h1, h2, Bool.false_and, Bool.and_false]

theorem out_few (g : Nat → Rc) (o a r : Int) (n i : Nat) (hi : (g i).f % 16 = o) : outV (actOf a (few g o)) (plcOf (few g o)) r n i = outV (actOf a g) (plcOf g) r n i := by
  rw [plcOf_few]
  have hd : (actOf a (few g o) i).d = (actOf a g i).d := by unfold actOf; rw [few_on g o i hi]
  have hh : heardL (actOf a (few g o)) (plcOf g) r i n = heardL (actOf a g) (plcOf g) r i n := by
    unfold heardL
    congr 1
    funext k
    exact hears_few g o a r i k hi
  unfold outV
  rw [hd]
  unfold catchV
  rw [hh]
  split
  · split
    · rfl
    · rw [(few_same g o a _).2.1, (few_same g o a i).2.2.1, (few_same g o a i).2.2.2]
    · rfl
  · rfl

theorem out_kin (g : Nat → Rc) (a r : Int) (n i : Nat) : outV (actOf a g) (plcOf g) r n i < 0 ∨ ∃ k : Nat, outV (actOf a g) (plcOf g) r n i = k ∧ k < n ∧ (g k).f % 16 = (g i).f % 16 := by
  unfold outV
  split
  · unfold catchV
    split
    · exact .inl (by omega)
    · rename_i k hk
      split
      · have hm := heardL_mem (show k ∈ heardL (actOf a g) (plcOf g) r i n by rw [hk]; simp)
        refine .inr ⟨k, rfl, hm.1, offset_of a g i k ?_⟩
        have h2 := hm.2
        simp only [hearsB, Bool.and_eq_true, beq_iff_eq] at h2
        exact h2.1.2
      · exact .inl (by omega)
    · exact .inl (by omega)
  · exact .inl (by omega)

/-! ### Walks -/

theorem same_yes (n B B' c c' : Nat) (v : Nat → Int) (w : World) (hn : n ≤ 200) (h1 : ∀ k, k < n → w.cell? ⟨B, k, none⟩ = some (.int .i64 (v k))) (h2 : ∀ k, k < n → w.cell? ⟨B', k, none⟩ = some (.int .i64 (v k))) :
    Calls Tryd.prog 21 #[.slice (some ⟨B, 0, none⟩) n c, .slice (some ⟨B', 0, none⟩) n c'] w fun e w' => e = .returned (.bool true) ∧ Kp w w' := by
  have b0 : ((n : Int) != n) = false := by simp
  go_enter Tryd.func21, Tryd.ntmps21
  go_wp2
  go_loopw [5] (fun q wr => ∃ k : Nat, k ≤ n ∧ q = .int .i64 k ∧ Kp w wr) (fun q _ => n - (intOf q).toNat)
  case atStart => exact ⟨0, by omega, rfl, Kp.refl _⟩
  case round =>
    obtain ⟨k, hk, rfl, hK⟩ := hrel
    by_cases hlt : k < n
    · have r1 := hK.cell (h1 k hlt)
      have r2 := hK.cell (h2 k hlt)
      go_wp2
      go_quiet (fail)
      have hb : (v k != v k) = false := by simp
      go_wp2
      go_roundw
      case rel => exact ⟨k + 1, by omega, by simp, hK.drewN _⟩
      case measure => simp [intOf]; omega
    · obtain rfl : n = k := by omega
      go_wp2
      go_ret
      exact ⟨rfl, hK⟩

set_option maxRecDepth 100000 in
theorem Catch_zero (A1 A2 : Option Addr) (c1 c2 : Nat) (r a : Int) (w : World) (hr0 : 0 ≤ r) (hr : r ≤ 20000) (ha0 : 0 ≤ a) (ha : a ≤ 1000000000) :
    Calls Tryd.prog 29 #[.slice A1 0 c1, .slice A2 0 c2, .int .i64 r, .slice none 0 0, .int .i64 a] w fun e w' =>
      ∃ B, e = .returned (.tuple #[.slice (some ⟨B, 0, none⟩) 0 0, .int .i64 0]) ∧ Kp w w' := by
  have hmk := fun wx => run_make_row' (P := Tryd.prog) 41 3 (.int .i64 0) 8 Tryd.underlying41 Trydinfo3 rfl .i64 .i64 0 (by omega) (by omega) wx
  rw [show ((0 : Nat) : Int) = 0 from rfl] at hmk
  go_enter Tryd.func29, Tryd.ntmps29
  go_wp2
  go_loopw [46] (fun q wr => q = .int .i64 0 ∧ Kp w wr) (fun _ _ => 0)
  case atStart => exact ⟨rfl, Kp.refl _⟩
  case round =>
    obtain ⟨rfl, hK⟩ := hrel
    go_wp2
    have hK2 : Kp w ((wr.alloc (.cells #[.slice A1 0 c1, .slice A2 0 c2, .int .i64 r] 62)).alloc (.cells (madeCells #[.int .i64 0] 0) 3)) := (hK.alloc _).alloc _
    obtain ⟨W1, rfl⟩ : ∃ W1 : World, W1 = wr := ⟨_, rfl⟩
    generalize (W1.alloc (.cells #[.slice A1 0 c1, .slice A2 0 c2, .int .i64 r] 62)).alloc (.cells (madeCells #[.int .i64 0] 0) 3) = W2 at hK2 ⊢
    go_loopw [68] (fun q wr => q = .int .i64 0 ∧ Kp w wr) (fun _ _ => 0)
    case atStart => exact ⟨rfl, hK2⟩
    case round =>
      obtain ⟨rfl, hK3⟩ := hrel
      go_wp2
      go_ret2
      exact ⟨_, rfl, hK3⟩

set_option maxRecDepth 100000 in
theorem caught_zero (A : Option Addr) (c : Nat) (r a : Int) (w : World) (hr0 : 0 ≤ r) (hr : r ≤ 20000) (ha0 : 0 ≤ a) (ha : a ≤ 1000000000) :
    Calls Tryd.prog 20 #[.slice A 0 c, .int .i64 r, .int .i64 a] w fun e w' =>
      ∃ B, e = .returned (.tuple #[.slice (some ⟨B, 0, none⟩) 0 0, .bool true]) ∧ Kp w w' := by
  go_enter Tryd.func20, Tryd.ntmps20
  go_wp2
  go_loopw [8, 9, 10] (fun va vp q wr => va = .slice none 0 0 ∧ vp = .slice none 0 0 ∧ q = .int .i64 0 ∧ Kp w wr) (fun _ _ _ _ => 0)
  case atStart => exact ⟨rfl, rfl, rfl, Kp.refl _⟩
  case round =>
    obtain ⟨rfl, rfl, rfl, hK⟩ := hrel
    go_wp2_with fail
    refine (Catch_zero _ _ _ _ _ _ _ hr0 hr ha0 ha).mono ?_
    rintro e w' ⟨B, rfl, hk2⟩
    go_wp2
    go_ret2
    exact ⟨B, rfl, hK.trans hk2⟩
end Go.Proofs.YtbgnkopnbgaabaaDoor
