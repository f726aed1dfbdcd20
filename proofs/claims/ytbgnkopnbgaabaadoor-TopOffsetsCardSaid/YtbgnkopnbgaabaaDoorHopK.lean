/-
  The walks of the laws of hop that loop. Conditions: the two tables lie in the cells of their variables.
-/
import Derived.Test.YtbgnkopnbgaabaaDoorHopL
namespace Go.Proofs.YtbgnkopnbgaabaaDoor
open Go.RowKit

theorem Kp.setOwn {w w' : World} (h : Kp w w') (j : Nat) (v : Value) : Kp w (w'.setCell ⟨w.heap.size, j, none⟩ v) := Below.setCell h (Nat.le_refl _) v

/-- HopWait. -/
theorem hopwait_any (n x y : Int) (w : World) (hL : Laid w) (hn0 : 0 ≤ n) (hn : n ≤ 4294967295) (hx0 : 0 ≤ x) (hx : x ≤ 255) (hy0 : 0 ≤ y) (hy : y ≤ 255) :
    Calls Tryd.prog 7 #[.int .u32 n, .int .u8 x, .int .u8 y] w fun e w' => e = .returned (.bool true) ∧ Kp w w' := by
  have hs := slotV_range n
  have hb := slotB_of hs.1 (by omega)
  have hk : chanB (x % 16) = true := chanB_of (by omega) (by omega)
  have hk2 : chanB (y % 16) = true := chanB_of (by omega) (by omega)
  have hst := st_range (slotV n + x % 16) (y % 16)
  go_enter Tryd.func7, Tryd.ntmps7
  go_wp2_with fail
  refine (head_any _ hL).mono ?_
  rintro e w' ⟨rfl, rfl⟩
  go_wp2_with fail
  refine (slot_any _ _ hn0 hn).mono ?_
  rintro e w' ⟨rfl, rfl⟩
  go_wp2_with fail
  refine (wait_ok _ _ _ _ hL hb hk hk2).mono ?_
  rintro e w' ⟨rfl, rfl⟩
  go_wp2_with fail
  go_loop [12] (fun i => ∃ k : Nat, (k : Int) ≤ st (slotV n + x % 16) (y % 16) + 1 ∧ i = .int .i64 k) (fun i => (17 - intOf i).toNat)
  case atStart => exact ⟨0, by omega, rfl⟩
  case round =>
    obtain ⟨k, hk3, rfl⟩ := hrel
    by_cases hlt : (k : Int) ≤ st (slotV n + x % 16) (y % 16)
    · have hb2 : slotB (slotV n + k) = true := slotB_of (by omega) (by omega)
      have HE : (ch (slotV n + k + x % 16) == y % 16) = ((k : Int) == st (slotV n + x % 16) (y % 16)) := by
        rw [show slotV n + k + x % 16 = slotV n + x % 16 + k by omega]
        by_cases h : (k : Int) = st (slotV n + x % 16) (y % 16)
        · rw [beq_iff_eq.2 h]; rw [h]; simpa using ch_st (slotV n + x % 16) (y % 16) (by omega) (by omega)
        · rw [beq_eq_false_iff_ne.2 h]; simpa using ch_ne (slotV n + x % 16) (y % 16) k (by omega) (by omega) (by omega) (by omega)
      have HH := Lib.hid HE
      clear HE
      go_wp2_with fail
      refine (slot_any _ _ hn0 hn).mono ?_
      rintro e w' ⟨rfl, rfl⟩
      go_wp2_with fail
      refine (channel_ok _ _ _ hL hb2 hk).mono ?_
      rintro e w' ⟨rfl, rfl⟩
      have HE := HH.out
      go_wp2
      go_round
      case rel => exact ⟨k + 1, by omega, by go_num⟩
      case measure => simp [intOf]; omega
    · go_wp2
      go_ret
      exact ⟨rfl, Kp.refl _⟩

/-- A row of sixteen cells that say yes where the channel `j` has come among the first `k` from the sum `s` on. -/
structure Seen (s : Int) (b k : Nat) (w : World) : Prop where
  cell : ∀ j : Nat, j < 16 → w.cell? ⟨b, j, none⟩ = some (.bool (decide (st s j < k)))
  frozen : ∀ j : Nat, w.frozen? ⟨b, j, none⟩ = false

theorem Seen.step {s : Int} {b k : Nat} {w : World} (h : Seen s b k w) (hk : k < 16) : Seen s b (k + 1) (w.setCell ⟨b, (ch (s + k)).toNat, none⟩ (.bool true)) := by
  have hc := ch_range (s + k)
  refine ⟨fun j hj => ?_, fun j => ?_⟩
  · by_cases e : j = (ch (s + k)).toNat
    · have hs : st s j = k := by
        have := st_ch s k (by omega) (by omega)
        rw [show (j : Int) = ch (s + k) by omega]; exact this
      rw [← e, World.cell?_setCell_same' _ _ _ (by rw [h.cell j hj]; rfl)]
      rw [hs, decide_eq_true (by omega)]
    · rw [World.cell?_setCell_other _ _ _ _ (fun h2 => e (congrArg Addr.off h2).symm), h.cell j hj]
      have hn : st s j ≠ k := by
        intro hs
        have := ch_st s j (by omega) (by omega)
        rw [hs] at this
        omega
      congr 2
      rw [decide_eq_decide]
      omega
  · rw [World.frozen?_setCell]; exact h.frozen j

theorem Seen.start (s : Int) (w : World) (C : Array Value) (hC : ∀ j : Nat, j < 16 → C[j]? = some (.bool false)) (t : TypeId) : Seen s w.heap.size 0 (w.alloc (.cells C t)) := by
  refine ⟨fun j hj => ?_, fun j => World.frozen?_alloc_new _ _ _ _⟩
  have := st_range s j
  rw [World.cell?_alloc_new, hC j hj, decide_eq_false (by omega)]

theorem start16 (j : Nat) (hj : j < 16) : (#[Value.bool false, .bool false, .bool false, .bool false, .bool false, .bool false, .bool false, .bool false, .bool false, .bool false, .bool false, .bool false, .bool false, .bool false, .bool false, .bool false])[j]? = some (Value.bool false) := by
  show (Array.replicate 16 (Value.bool false))[j]? = _
  rw [Array.getElem?_replicate, if_pos hj]

/-- HopEach. -/
theorem each_any (n : Int) (w : World) (hL : Laid w) (hn0 : 0 ≤ n) (hn : n ≤ 4294967295) :
    Calls Tryd.prog 4 #[.int .u32 n] w fun e w' => e = .returned (.bool true) ∧ Kp w w' := by
  have hs := slotV_range n
  have hb := slotB_of hs.1 (by omega)
  go_enter Tryd.func4, Tryd.ntmps4
  go_wp2_with fail
  refine (head_any _ hL).mono ?_
  rintro e w' ⟨rfl, rfl⟩
  go_wp2_with fail
  go_loopw [5, 9] (fun _ i wr => ∃ k : Nat, k ≤ 16 ∧ i = .int .i64 k ∧ Kp w wr ∧ Seen (slotV n) w.heap.size k wr) (fun _ i _ => (17 - intOf i).toNat)
  case atStart => exact ⟨0, by omega, rfl, (Kp.refl w).alloc _, Seen.start _ _ _ start16 _⟩
  case round =>
    obtain ⟨k, hk3, rfl, hK, hS⟩ := hrel
    by_cases hlt : (k : Int) < 16
    · have hb2 : chanB k = true := chanB_of (by omega) (by omega)
      have hLr := hL.kp hK
      have hc := ch_range (slotV n + k)
      have hcell := hS.cell (ch (slotV n + k)).toNat (by omega)
      have hst : decide (st (slotV n) ((ch (slotV n + k)).toNat : Int) < k) = false := by
        rw [show (((ch (slotV n + k)).toNat : Nat) : Int) = ch (slotV n + k) by omega, st_ch _ _ (by omega) (by omega)]; simp
      rw [hst] at hcell
      have hfr := hS.frozen (ch (slotV n + k)).toNat
      clear hst
      go_wp2_with fail
      refine (slot_any _ _ hn0 hn).mono ?_
      rintro e w' ⟨rfl, rfl⟩
      go_wp2_with fail
      refine (channel_ok _ _ _ hLr hb hb2).mono ?_
      rintro e w' ⟨rfl, rfl⟩
      go_wp2
      go_roundw
      case rel => exact ⟨k + 1, by omega, by go_num, hK.setOwn _ _, hS.step (by omega)⟩
      case measure => simp [intOf]; omega
    · go_wp2
      go_ret
      exact ⟨rfl, hK⟩
/-- HopAll. -/
theorem all_any (n x : Int) (w : World) (hL : Laid w) (hn0 : 0 ≤ n) (hn : n ≤ 4294967295) (hx0 : 0 ≤ x) (hx : x ≤ 255) :
    Calls Tryd.prog 6 #[.int .u32 n, .int .u8 x] w fun e w' => e = .returned (.bool true) ∧ Kp w w' := by
  have hs := slotV_range n
  have hb := slotB_of hs.1 (by omega)
  have hb16 : slotB (slotV n + 16) = true := slotB_of (by omega) (by omega)
  have hk : chanB (x % 16) = true := chanB_of (by omega) (by omega)
  have e16 := Lib.hid (ch_16 (slotV n + x % 16))
  go_enter Tryd.func6, Tryd.ntmps6
  go_wp2_with fail
  refine (head_any _ hL).mono ?_
  rintro e w' ⟨rfl, rfl⟩
  go_wp2_with fail
  go_loopw [8, 19] (fun _ i wr => ∃ k : Nat, k ≤ 16 ∧ i = .int .i64 k ∧ Kp w wr ∧ Seen (slotV n + x % 16) w.heap.size k wr) (fun _ i _ => (17 - intOf i).toNat)
  case atStart => exact ⟨0, by omega, rfl, (Kp.refl w).alloc _, Seen.start _ _ _ start16 _⟩
  case round =>
    obtain ⟨k, hk3, rfl, hK, hS⟩ := hrel
    have hLr := hL.kp hK
    by_cases hlt : (k : Int) < 16
    · have hb2 : slotB (slotV n + k) = true := slotB_of (by omega) (by omega)
      have hc := ch_range (slotV n + x % 16 + k)
      have hcell := hS.cell (ch (slotV n + x % 16 + k)).toNat (by omega)
      have hst : decide (st (slotV n + x % 16) ((ch (slotV n + x % 16 + k)).toNat : Int) < k) = false := by
        rw [show (((ch (slotV n + x % 16 + k)).toNat : Nat) : Int) = ch (slotV n + x % 16 + k) by omega, st_ch _ _ (by omega) (by omega)]; simp
      rw [hst] at hcell
      have hfr := hS.frozen (ch (slotV n + x % 16 + k)).toNat
      clear hst
      go_wp2_with fail
      refine (slot_any _ _ hn0 hn).mono ?_
      rintro e w' ⟨rfl, rfl⟩
      go_wp2_with fail
      refine (channel_ok _ _ _ hLr hb2 hk).mono ?_
      rintro e w' ⟨rfl, rfl⟩
      rw [show slotV n + k + x % 16 = slotV n + x % 16 + k by omega]
      go_wp2
      go_roundw
      case rel => exact ⟨k + 1, by omega, by go_num, hK.setOwn _ _, hS.step (by omega)⟩
      case measure => simp [intOf]; omega
    · go_wp2_with fail
      refine (slot_any _ _ hn0 hn).mono ?_
      rintro e w' ⟨rfl, rfl⟩
      go_wp2_with fail
      refine (channel_ok _ _ _ hLr hb hk).mono ?_
      rintro e w' ⟨rfl, rfl⟩
      go_wp2_with fail
      refine (slot_any _ _ hn0 hn).mono ?_
      rintro e w' ⟨rfl, rfl⟩
      go_wp2_with fail
      refine (channel_ok _ _ _ hLr hb16 hk).mono ?_
      rintro e w' ⟨rfl, rfl⟩
      rw [show slotV n + 16 + x % 16 = slotV n + x % 16 + 16 by omega, e16.out]
      go_wp2
      go_ret
      exact ⟨rfl, hK⟩
end Go.Proofs.YtbgnkopnbgaabaaDoor
