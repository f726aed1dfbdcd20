/-
  The walks of the laws of hop that write no memory. Conditions: the two tables lie in the cells of their variables.
-/
import Derived.Test.YtbgnkopnbgaabaaDoorHopV
namespace Go.Proofs.YtbgnkopnbgaabaaDoor
open Go.RowKit

def okV (b : Bool) (v : Int) : Int := if b then v else 0
def okE (b : Bool) : Int := if b then 0 else 1

theorem channel_all (a o : Int) (w : World) (hL : Laid w) :
    Calls Tryd.prog 11 #[.int .i64 a, .int .i64 o] w fun e w' => e = .returned (.tuple #[.int .i64 (okV (slotB a && chanB o) (ch (a + o))), .int .i64 (okE (slotB a && chanB o))]) ∧ w = w' := by
  cases h : slotB a && chanB o with
  | true => rw [Bool.and_eq_true] at h; exact channel_ok a o w hL h.1 h.2
  | false => exact channel_bad a o w h
theorem rchannel_all (a o : Int) (w : World) :
    Calls Tryd.prog 12 #[.int .i64 a, .int .i64 o] w fun e w' => e = .returned (.tuple #[.int .i64 (okV (slotB a && chanB o) (ch (a + o))), .int .i64 (okE (slotB a && chanB o))]) ∧ Kp w w' := by
  cases h : slotB a && chanB o with
  | true => rw [Bool.and_eq_true] at h; exact rchannelC_ok a o w h.1 h.2
  | false => exact rchannelC_bad a o w h
theorem offset_all (a o : Int) (w : World) (hL : Laid w) :
    Calls Tryd.prog 13 #[.int .i64 a, .int .i64 o] w fun e w' => e = .returned (.tuple #[.int .i64 (okV (slotB a && chanB o) (st a o)), .int .i64 (okE (slotB a && chanB o))]) ∧ w = w' := by
  cases h : slotB a && chanB o with
  | true => rw [Bool.and_eq_true] at h; exact offset_ok a o w hL h.1 h.2
  | false => exact offset_bad a o w h
theorem roffset_all (a o : Int) (w : World) :
    Calls Tryd.prog 14 #[.int .i64 a, .int .i64 o] w fun e w' => e = .returned (.tuple #[.int .i64 (okV (slotB a && chanB o) (st a o)), .int .i64 (okE (slotB a && chanB o))]) ∧ Kp w w' := by
  cases h : slotB a && chanB o with
  | true => rw [Bool.and_eq_true] at h; exact roffset_ok a o w h.1 h.2
  | false => exact roffset_bad a o w h
theorem wait_all (a o c : Int) (w : World) (hL : Laid w) :
    Calls Tryd.prog 15 #[.int .i64 a, .int .i64 o, .int .i64 c] w fun e w' => e = .returned (.tuple #[.int .i64 (okV (slotB a && chanB o && chanB c) (st (a + o) c)), .int .i64 (okE (slotB a && chanB o && chanB c))]) ∧ w = w' := by
  cases h : slotB a && chanB o && chanB c with
  | true => rw [Bool.and_eq_true, Bool.and_eq_true] at h; exact wait_ok a o c w hL h.1.1 h.1.2 h.2
  | false => exact wait_bad a o c w h
theorem rwait_all (a o c : Int) (w : World) :
    Calls Tryd.prog 16 #[.int .i64 a, .int .i64 o, .int .i64 c] w fun e w' => e = .returned (.tuple #[.int .i64 (okV (slotB a && chanB o && chanB c) (st (a + o) c)), .int .i64 (okE (slotB a && chanB o && chanB c))]) ∧ Kp w w' := by
  cases h : slotB a && chanB o && chanB c with
  | true => rw [Bool.and_eq_true, Bool.and_eq_true] at h; exact rwait_ok a o c w h.1.1 h.1.2 h.2
  | false => exact rwait_bad a o c w h

/-- HopMatchesReference. -/
theorem matches_any (a o c : Int) (w : World) (hL : Laid w) :
    Calls Tryd.prog 3 #[.int .i64 a, .int .i64 o, .int .i64 c] w fun e w' => e = .returned (.bool true) ∧ Kp w w' := by
  go_enter Tryd.func3, Tryd.ntmps3
  go_wp2_with fail
  refine (head_any _ hL).mono ?_
  rintro e w' ⟨rfl, rfl⟩
  go_wp2_with fail
  refine (channel_all _ _ _ hL).mono ?_
  rintro e w' ⟨rfl, rfl⟩
  go_wp2_with fail
  refine (rchannel_all _ _ _).mono ?_
  rintro e w1 ⟨rfl, k1⟩
  have hL1 := hL.kp k1
  go_wp2_with fail
  refine (offset_all _ _ _ hL1).mono ?_
  rintro e w' ⟨rfl, rfl⟩
  go_wp2_with fail
  refine (roffset_all _ _ _).mono ?_
  rintro e w2 ⟨rfl, k2⟩
  have hL2 := hL1.kp k2
  go_wp2_with fail
  refine (wait_all _ _ _ _ hL2).mono ?_
  rintro e w' ⟨rfl, rfl⟩
  go_wp2_with fail
  refine (rwait_all _ _ _ _).mono ?_
  rintro e w3 ⟨rfl, k3⟩
  go_wp2
  go_ret
  exact ⟨rfl, (k1.trans k2).trans k3⟩

theorem slotV_range (n : Int) : 0 ≤ slotV n ∧ slotV n < 999999900 := by unfold slotV; omega
theorem slotB_of {a : Int} (h0 : 0 ≤ a) (h1 : a ≤ 1000000000) : slotB a = true := by simp [slotB, h0, h1]
theorem chanB_of {a : Int} (h0 : 0 ≤ a) (h1 : a < 16) : chanB a = true := by simp [chanB, h0, h1]

/-- HopInverse. -/
theorem inverse_any (n x : Int) (w : World) (hL : Laid w) (hn0 : 0 ≤ n) (hn : n ≤ 4294967295) (hx0 : 0 ≤ x) (hx : x ≤ 255) :
    Calls Tryd.prog 5 #[.int .u32 n, .int .u8 x] w fun e w' => e = .returned (.bool true) ∧ Kp w w' := by
  have hs := slotV_range n
  have hb := slotB_of hs.1 (by omega)
  have hk : chanB (x % 16) = true := chanB_of (by omega) (by omega)
  have hc := ch_range (slotV n + x % 16)
  have hcb := chanB_of hc.1 hc.2
  have ht := st_range (slotV n) (x % 16)
  have htb := chanB_of ht.1 ht.2
  have e1 := Lib.hid (st_ch (slotV n) (x % 16) (by omega) (by omega))
  have e2 := Lib.hid (ch_st (slotV n) (x % 16) (by omega) (by omega))
  go_enter Tryd.func5, Tryd.ntmps5
  go_wp2_with fail
  refine (head_any _ hL).mono ?_
  rintro e w' ⟨rfl, rfl⟩
  go_wp2_with fail
  refine (slot_any _ _ hn0 hn).mono ?_
  rintro e w' ⟨rfl, rfl⟩
  go_wp2_with fail
  refine (channel_ok _ _ _ hL hb hk).mono ?_
  rintro e w' ⟨rfl, rfl⟩
  go_wp2_with fail
  refine (slot_any _ _ hn0 hn).mono ?_
  rintro e w' ⟨rfl, rfl⟩
  go_wp2_with fail
  refine (offset_ok _ _ _ hL hb hcb).mono ?_
  rintro e w' ⟨rfl, rfl⟩
  rw [e1.out]
  go_wp2_with fail
  refine (slot_any _ _ hn0 hn).mono ?_
  rintro e w' ⟨rfl, rfl⟩
  go_wp2_with fail
  refine (offset_ok _ _ _ hL hb hk).mono ?_
  rintro e w' ⟨rfl, rfl⟩
  go_wp2_with fail
  refine (slot_any _ _ hn0 hn).mono ?_
  rintro e w' ⟨rfl, rfl⟩
  go_wp2_with fail
  refine (channel_ok _ _ _ hL hb htb).mono ?_
  rintro e w' ⟨rfl, rfl⟩
  rw [e2.out]
  go_wp2
  go_ret
  exact ⟨rfl, Kp.refl _⟩

/-- HopShift. -/
theorem shift_any (n x y : Int) (w : World) (hL : Laid w) (hn0 : 0 ≤ n) (hn : n ≤ 4294967295) (hx0 : 0 ≤ x) (hx : x ≤ 255) (hy0 : 0 ≤ y) (hy : y ≤ 255) :
    Calls Tryd.prog 9 #[.int .u32 n, .int .u8 x, .int .u8 y] w fun e w' => e = .returned (.bool true) ∧ Kp w w' := by
  have hs := slotV_range n
  have hb := slotB_of hs.1 (by omega)
  have hb1 : slotB (slotV n + 1) = true := slotB_of (by omega) (by omega)
  have hk : chanB (x % 16) = true := chanB_of (by omega) (by omega)
  have hk1 : chanB ((x + 1) % 16) = true := chanB_of (by omega) (by omega)
  have hk2 : chanB (y % 16) = true := chanB_of (by omega) (by omega)
  have e1 : ch (slotV n + 1 + x % 16) = ch (slotV n + (x + 1) % 16) := by unfold ch; congr 2; omega
  have e2 : (ch (slotV n + x % 16) == ch (slotV n + y % 16)) = (x % 16 == y % 16) := by
    by_cases h : x % 16 = y % 16
    · simp [h]
    · have := mt (ch_inj (slotV n) (x % 16) (y % 16) (by omega) (by omega) (by omega) (by omega)) h
      rw [beq_eq_false_iff_ne.2 h, beq_eq_false_iff_ne.2 this]
  have E1 := Lib.hid e1
  have E2 := Lib.hid e2
  clear e1 e2
  go_enter Tryd.func9, Tryd.ntmps9
  go_wp2_with fail
  refine (head_any _ hL).mono ?_
  rintro e w' ⟨rfl, rfl⟩
  go_wp2_with fail
  refine (slot_any _ _ hn0 hn).mono ?_
  rintro e w' ⟨rfl, rfl⟩
  go_wp2_with fail
  refine (channel_ok _ _ _ hL hb1 hk).mono ?_
  rintro e w' ⟨rfl, rfl⟩
  rw [E1.out]
  go_wp2_with fail
  refine (slot_any _ _ hn0 hn).mono ?_
  rintro e w' ⟨rfl, rfl⟩
  go_wp2_with fail
  refine (channel_ok _ _ _ hL hb hk1).mono ?_
  rintro e w' ⟨rfl, rfl⟩
  go_wp2_with fail
  refine (slot_any _ _ hn0 hn).mono ?_
  rintro e w' ⟨rfl, rfl⟩
  go_wp2_with fail
  refine (channel_ok _ _ _ hL hb hk).mono ?_
  rintro e w' ⟨rfl, rfl⟩
  go_wp2_with fail
  refine (slot_any _ _ hn0 hn).mono ?_
  rintro e w' ⟨rfl, rfl⟩
  go_wp2_with fail
  refine (channel_ok _ _ _ hL hb hk2).mono ?_
  rintro e w' ⟨rfl, rfl⟩
  have e2 := E2.out
  go_wp2
  go_ret
  exact ⟨rfl, Kp.refl _⟩
end Go.Proofs.YtbgnkopnbgaabaaDoor
