/-
  The walks of the reference's two searches, of 'slot', 'is' and 'head'. Conditions: the two tables lie in the cells of their variables.
-/
import Derived.Test.YtbgnkopnbgaabaaDoorHopW
namespace Go.Proofs.YtbgnkopnbgaabaaDoor
open Go.RowKit

theorem ret_pair {k : IntKind} {a b : Int} {x : Value} (h : a = b) : Ending.returned (.tuple #[.int k a, x]) = .returned (.tuple #[.int k b, x]) := by rw [h]

theorem roffset_bad (a o : Int) (w : World) (h : (slotB a && chanB o) = false) :
    Calls Tryd.prog 14 #[.int .i64 a, .int .i64 o] w fun e w' => e = .returned (.tuple #[.int .i64 0, .int .i64 1]) ∧ Kp w w' := by
  cases ha : slotB a with
  | false =>
    go_enter Tryd.func14, Tryd.ntmps14
    go_wp2_with (first | (go_at_call 25; refine (rslot_any _ _).mono ?_; rintro e w' ⟨rfl, rfl⟩))
    go_ret2
    exact ⟨rfl, Kp.refl _⟩
  | true =>
    have ho : chanB o = false := by simpa [ha] using h
    clear h
    go_enter Tryd.func14, Tryd.ntmps14
    go_wp2_with (first | (go_at_call 25; refine (rslot_any _ _).mono ?_; rintro e w' ⟨rfl, rfl⟩) | (go_at_call 26; refine (rchannel_any _ _).mono ?_; rintro e w' ⟨rfl, rfl⟩))
    go_ret2
    exact ⟨rfl, Kp.refl _⟩

theorem roffset_ok (a c : Int) (w : World) (ha : slotB a = true) (ho : chanB c = true) :
    Calls Tryd.prog 14 #[.int .i64 a, .int .i64 c] w fun e w' => e = .returned (.tuple #[.int .i64 (st a c), .int .i64 0]) ∧ Kp w w' := by
  have ⟨ha0, ha1⟩ := slotB_yes ha
  have ⟨ho0, ho1⟩ := chanB_yes ho
  have hs := st_range a c
  go_enter Tryd.func14, Tryd.ntmps14
  go_wp2_with (first | (go_at_call 25; refine (rslot_any _ _).mono ?_; rintro e w' ⟨rfl, rfl⟩) | (go_at_call 26; refine (rchannel_any _ _).mono ?_; rintro e w' ⟨rfl, rfl⟩))
  go_loopw [6] (fun i wr => ∃ k : Nat, (k : Int) ≤ st a c ∧ i = .int .i64 k ∧ Kp w wr) (fun i _ => (16 - intOf i).toNat)
  case atStart => exact ⟨0, by omega, rfl, Kp.refl _⟩
  case round =>
    obtain ⟨k, hk, rfl, hK⟩ := hrel
    by_cases hlt : (k : Int) < st a c
    · have hne := ch_ne a c k ho0 ho1 (by omega) hlt
      have HN : (ch (a + k) == c) = false := by simpa using hne
      unfold ch at HN
      clear hne
      go_wp2_with (first | (go_at_call 27; refine (rtable_any _).mono ?_; rintro e w' ⟨rfl, hk2, hc⟩; have hc1 := hc ((a + k) % 16).toNat (by omega); clear hc))
      go_roundw
      case rel => exact ⟨k + 1, by omega, by go_num, hK.trans hk2⟩
      case measure => simp [intOf]; omega
    · have hE : (k : Int) = st a c := by omega
      have he := ch_st a c ho0 ho1
      rw [← hE] at he
      have HN : (ch (a + k) == c) = true := by simpa using he
      have HE := Lib.hid hE
      unfold ch at HN
      clear he hE
      go_wp2_with (first | (go_at_call 27; refine (rtable_any _).mono ?_; rintro e w' ⟨rfl, hk2, hc⟩; have hc1 := hc ((a + k) % 16).toNat (by omega); clear hc))
      go_ret2
      exact ⟨ret_pair HE.out, hK.trans hk2⟩

theorem rwait_bad (a o c : Int) (w : World) (h : (slotB a && chanB o && chanB c) = false) :
    Calls Tryd.prog 16 #[.int .i64 a, .int .i64 o, .int .i64 c] w fun e w' => e = .returned (.tuple #[.int .i64 0, .int .i64 1]) ∧ Kp w w' := by
  cases ha : slotB a with
  | false =>
    go_enter Tryd.func16, Tryd.ntmps16
    go_wp2_with (first | (go_at_call 25; refine (rslot_any _ _).mono ?_; rintro e w' ⟨rfl, rfl⟩))
    go_ret2
    exact ⟨rfl, Kp.refl _⟩
  | true =>
    cases ho : chanB o with
    | false =>
      clear h
      go_enter Tryd.func16, Tryd.ntmps16
      go_wp2_with (first | (go_at_call 25; refine (rslot_any _ _).mono ?_; rintro e w' ⟨rfl, rfl⟩) | (go_at_call 26; refine (rchannel_any _ _).mono ?_; rintro e w' ⟨rfl, rfl⟩))
      go_ret2
      exact ⟨rfl, Kp.refl _⟩
    | true =>
      have hc : chanB c = false := by simpa [ha, ho] using h
      clear h
      go_enter Tryd.func16, Tryd.ntmps16
      go_wp2_with (first | (go_at_call 25; refine (rslot_any _ _).mono ?_; rintro e w' ⟨rfl, rfl⟩) | (go_at_call 26; refine (rchannel_any _ _).mono ?_; rintro e w' ⟨rfl, rfl⟩))
      go_ret2
      exact ⟨rfl, Kp.refl _⟩

theorem rwait_ok (a o c : Int) (w : World) (ha : slotB a = true) (ho : chanB o = true) (hcc : chanB c = true) :
    Calls Tryd.prog 16 #[.int .i64 a, .int .i64 o, .int .i64 c] w fun e w' => e = .returned (.tuple #[.int .i64 (st (a + o) c), .int .i64 0]) ∧ Kp w w' := by
  have ⟨ha0, ha1⟩ := slotB_yes ha
  have ⟨ho0, ho1⟩ := chanB_yes ho
  have ⟨hc0, hc1⟩ := chanB_yes hcc
  have hs := st_range (a + o) c
  go_enter Tryd.func16, Tryd.ntmps16
  go_wp2_with (first | (go_at_call 25; refine (rslot_any _ _).mono ?_; rintro e w' ⟨rfl, rfl⟩) | (go_at_call 26; refine (rchannel_any _ _).mono ?_; rintro e w' ⟨rfl, rfl⟩))
  go_loopw [8] (fun i wr => ∃ k : Nat, (k : Int) ≤ st (a + o) c ∧ i = .int .i64 k ∧ Kp w wr) (fun i _ => (16 - intOf i).toNat)
  case atStart => exact ⟨0, by omega, rfl, Kp.refl _⟩
  case round =>
    obtain ⟨k, hk, rfl, hK⟩ := hrel
    by_cases hlt : (k : Int) < st (a + o) c
    · have hne := ch_ne (a + o) c k hc0 hc1 (by omega) hlt
      have HN : (ch (a + k + o) != c) = true := by rw [show a + k + o = a + o + k by omega]; simpa using hne
      unfold ch at HN
      clear hne
      go_wp2_with (first | (go_at_call 27; refine (rtable_any _).mono ?_; rintro e w' ⟨rfl, hk2, hc⟩; have hc1 := hc ((a + k + o) % 16).toNat (by omega); clear hc))
      go_roundw
      case rel => exact ⟨k + 1, by omega, by go_num, hK.trans hk2⟩
      case measure => simp [intOf]; omega
    · have hE : (k : Int) = st (a + o) c := by omega
      have he := ch_st (a + o) c hc0 hc1
      rw [← hE] at he
      have HN : (ch (a + k + o) != c) = false := by rw [show a + k + o = a + o + k by omega]; simpa using he
      have HE := Lib.hid hE
      unfold ch at HN
      clear he hE
      go_wp2_with (first | (go_at_call 27; refine (rtable_any _).mono ?_; rintro e w' ⟨rfl, hk2, hc⟩; have hc1 := hc ((a + k + o) % 16).toNat (by omega); clear hc))
      go_ret2
      exact ⟨ret_pair HE.out, hK.trans hk2⟩

def slotV (n : Int) : Int := n % 999999900
theorem slot_any (n : Int) (w : World) (h0 : 0 ≤ n) (h1 : n ≤ 4294967295) :
    Calls Tryd.prog 17 #[.int .u32 n] w fun e w' => e = .returned (.int .i64 (slotV n)) ∧ w = w' := by
  go_enter Tryd.func17, Tryd.ntmps17
  go_wp2
  go_ret
  exact ⟨rfl, rfl⟩

def isB (n e m : Int) : Bool := (e == 0) && (n == m)
theorem is_any (n e m : Int) (w : World) : Calls Tryd.prog 22 #[.int .i64 n, .int .i64 e, .int .i64 m] w fun e' w' => e' = .returned (.bool (isB n e m)) ∧ w = w' := by
  cases h1 : (e == 0) <;> cases h2 : (n == m)
  all_goals
    go_enter Tryd.func22, Tryd.ntmps22
    go_wp2
    go_ret
    exact ⟨by simp [isB, h1, h2], rfl⟩

theorem head_any (w : World) (hL : Laid w) : Calls Tryd.prog 10 #[] w fun e w' => e = .returned (.bool true) ∧ w = w' := by
  go_enter Tryd.func10, Tryd.ntmps10
  go_wp2_with fail
  refine (channel_ok _ _ _ hL (by decide) (by decide)).mono ?_
  rintro e w' ⟨rfl, rfl⟩
  go_wp2_with fail
  refine (channel_ok _ _ _ hL (by decide) (by decide)).mono ?_
  rintro e w' ⟨rfl, rfl⟩
  go_wp2_with fail
  refine (channel_ok _ _ _ hL (by decide) (by decide)).mono ?_
  rintro e w' ⟨rfl, rfl⟩
  go_wp2_with fail
  refine (offset_ok _ _ _ hL (by decide) (by decide)).mono ?_
  rintro e w' ⟨rfl, rfl⟩
  go_wp2_with fail
  refine (wait_ok _ _ _ _ hL (by decide) (by decide) (by decide)).mono ?_
  rintro e w' ⟨rfl, rfl⟩
  go_wp2_with fail
  refine (wait_ok _ _ _ _ hL (by decide) (by decide) (by decide)).mono ?_
  rintro e w' ⟨rfl, rfl⟩
  go_wp2_with fail
  refine (channel_bad _ _ _ (by decide)).mono ?_
  rintro e w' ⟨rfl, rfl⟩
  go_wp2_with (first | (go_at_call 22; refine (is_any _ _ _ _).mono ?_; rintro e w' ⟨rfl, rfl⟩; rw [show isB _ _ _ = true by decide]))
  go_ret
  exact ⟨rfl, rfl⟩
end Go.Proofs.YtbgnkopnbgaabaaDoor
