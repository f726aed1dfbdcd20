/-
  The walks of plane's and guard's small functions, at valid places and radii.
-/
import Derived.Test.YtbgnkopnbgaabaaDoorHopL
import Derived.BigQuiet
import Derived.Deep.QuietTactic
import Derived.BigRegion
import Derived.Deep.RegionHeld3
import Derived.Deep.DeepMust
namespace Go.Proofs.YtbgnkopnbgaabaaDoor
open Go.RowKit

/-- What the one listed variable holds. -/
structure LaidT (w : World) : Prop where
  table : ∀ k : Nat, k < 16 → w.cell? ⟨0, k, none⟩ = some (.int .i64 (tb k))
theorem LaidT.kp {w w' : World} (h : LaidT w) (k : Kp w w') : LaidT w' := ⟨fun i hi => k.cell (h.table i hi)⟩

theorem channel_okT (a o : Int) (w : World) (hL : LaidT w) (ha : slotB a = true) (ho : chanB o = true) :
    Calls Tryd.prog 11 #[.int .i64 a, .int .i64 o] w fun e w' => e = .returned (.tuple #[.int .i64 (ch (a + o)), .int .i64 0]) ∧ w = w' := by
  have ⟨ha0, ha1⟩ := slotB_yes ha
  have ⟨ho0, ho1⟩ := chanB_yes ho
  have hc := hL.table ((a + o) % 16).toNat (by omega)
  clear hL
  go_enter Tryd.func11, Tryd.ntmps11
  go_wp2_with (first | (go_at_call 23; refine (isSlot_any _ _).mono ?_; rintro e w' ⟨rfl, rfl⟩) | (go_at_call 24; refine (isChannel_any _ _).mono ?_; rintro e w' ⟨rfl, rfl⟩))
  go_ret2
  exact ⟨rfl, rfl⟩

theorem in_yes (n h : Int) (w : World) (h0 : 0 ≤ n) (h1 : n ≤ h) : Calls Tryd.prog 39 #[.int .i64 n, .int .i64 h] w fun e w' => e = .returned (.bool true) ∧ w = w' := by
  go_enter Tryd.func39, Tryd.ntmps39
  go_wp2
  go_ret
  exact ⟨rfl, rfl⟩

theorem isPlace_yes (x y : Int) (w : World) (hx0 : 0 ≤ x) (hx : x ≤ 10000) (hy0 : 0 ≤ y) (hy : y ≤ 10000) :
    Calls Tryd.prog 38 #[.agg #[.int .i64 x, .int .i64 y]] w fun e w' => e = .returned (.bool true) ∧ w.alloc (.cells #[.int .i64 x, .int .i64 y] 37) = w' := by
  go_enter Tryd.func38, Tryd.ntmps38
  go_wp2_with (go_at_call 39; refine (in_yes _ _ _ (by omega) (by omega)).mono ?_; rintro e w' ⟨rfl, rfl⟩)
  go_ret
  exact ⟨rfl, rfl⟩

theorem Kp.drewN {a b : World} (h : Kp a b) (n : Nat) : Kp a (b.drewN n) := ⟨h.os, h.tape, h.output, h.size, h.block⟩

def nearB (x y u v r : Int) : Bool := (x == u && y == v) || decide ((x - u) * (x - u) + (y - v) * (y - v) ≤ r * r)

theorem sq_bd (a b : Int) (h0 : 0 ≤ a) (h1 : a ≤ 20000) (h2 : 0 ≤ b) (h3 : b ≤ 20000) : 0 ≤ (a - b) * (a - b) ∧ (a - b) * (a - b) ≤ 400000000 := by
  constructor
  · rcases Int.le_total 0 (a - b) with h | h
    · exact Int.mul_nonneg h h
    · have := Int.mul_nonneg (show 0 ≤ -(a - b) by omega) (show 0 ≤ -(a - b) by omega); rwa [Int.neg_mul_neg] at this
  · rcases Int.le_total 0 (a - b) with h | h
    · have := Int.mul_le_mul (show a - b ≤ 20000 by omega) (show a - b ≤ 20000 by omega) h (by omega); omega
    · have h4 := Int.mul_le_mul (show -(a - b) ≤ 20000 by omega) (show -(a - b) ≤ 20000 by omega) (by omega) (by omega)
      rw [Int.neg_mul_neg] at h4; omega

theorem valid_yes (x y : Int) (w : World) (hx0 : 0 ≤ x) (hx : x ≤ 10000) (hy0 : 0 ≤ y) (hy : y ≤ 10000) :
    Calls Tryd.prog 19 #[.agg #[.int .i64 x, .int .i64 y]] w fun e w' => e = .returned (.bool true) ∧ Kp w w' := by
  go_enter Tryd.func19, Tryd.ntmps19
  go_wp2
  go_ret
  exact ⟨rfl, (Kp.refl w).alloc _⟩

def validB (x y : Int) : Bool := decide (0 ≤ x) && decide (x ≤ 10000) && decide (0 ≤ y) && decide (y ≤ 10000)
theorem validB_yes {x y : Int} (h : validB x y = true) : 0 ≤ x ∧ x ≤ 10000 ∧ 0 ≤ y ∧ y ≤ 10000 := by simpa [validB, and_assoc] using h
theorem valid_any (x y : Int) (w : World) : Calls Tryd.prog 19 #[.agg #[.int .i64 x, .int .i64 y]] w fun e w' => e = .returned (.bool (validB x y)) ∧ Kp w w' := by
  by_cases h1 : 0 ≤ x
  · by_cases h2 : x ≤ 10000
    · by_cases h3 : 0 ≤ y
      · by_cases h4 : y ≤ 10000
        · rw [show validB x y = true by simp [validB, h1, h2, h3, h4]]; exact valid_yes x y w h1 h2 h3 h4
        · go_enter Tryd.func19, Tryd.ntmps19
          go_wp2
          go_ret
          exact ⟨by simp [validB]; omega, (Kp.refl w).alloc _⟩
      · go_enter Tryd.func19, Tryd.ntmps19
        go_wp2
        go_ret
        exact ⟨by simp [validB]; omega, (Kp.refl w).alloc _⟩
    · go_enter Tryd.func19, Tryd.ntmps19
      go_wp2
      go_ret
      exact ⟨by simp [validB]; omega, (Kp.refl w).alloc _⟩
  · go_enter Tryd.func19, Tryd.ntmps19
    go_wp2
    go_ret
    exact ⟨by simp [validB]; omega, (Kp.refl w).alloc _⟩

def catchesB (s l h : Int) : Bool := decide (l ≤ s) && decide (s ≤ h)
theorem catches_any (s l h : Int) (w : World) : Calls Tryd.prog 37 #[.int .i64 s, .agg #[.int .i64 l, .int .i64 h]] w fun e w' => e = .returned (.bool (catchesB s l h)) ∧ Kp w w' := by
  by_cases h1 : l ≤ s
  · by_cases h2 : s ≤ h
    · go_enter Tryd.func37, Tryd.ntmps37
      go_wp2
      go_ret
      exact ⟨by simp [catchesB]; omega, (Kp.refl w).alloc _⟩
    · go_enter Tryd.func37, Tryd.ntmps37
      go_wp2
      go_ret
      exact ⟨by simp [catchesB]; omega, (Kp.refl w).alloc _⟩
  · go_enter Tryd.func37, Tryd.ntmps37
    go_wp2
    go_ret
    exact ⟨by simp [catchesB]; omega, (Kp.refl w).alloc _⟩

theorem near_ok (x y u v r : Int) (w : World) (hx0 : 0 ≤ x) (hx : x ≤ 10000) (hy0 : 0 ≤ y) (hy : y ≤ 10000) (hu0 : 0 ≤ u) (hu : u ≤ 10000) (hv0 : 0 ≤ v) (hv : v ≤ 10000) (hr0 : 0 ≤ r) (hr : r ≤ 20000) :
    Calls Tryd.prog 33 #[.agg #[.int .i64 x, .int .i64 y], .agg #[.int .i64 u, .int .i64 v], .int .i64 r] w fun e w' => e = .returned (.bool (nearB x y u v r)) ∧ Kp w w' := by
  have b1 := sq_bd x u hx0 (by omega) hu0 (by omega)
  have b2 := sq_bd y v hy0 (by omega) hv0 (by omega)
  have b3 := sq_bd r 0 hr0 hr (by omega) (by omega)
  simp only [Int.sub_zero] at b3
  go_enter Tryd.func33, Tryd.ntmps33
  go_wp2_with (first | (go_at_call 39; refine (in_yes _ _ _ (by omega) (by omega)).mono ?_; rintro e w' ⟨rfl, rfl⟩) | (go_at_call 38; refine (isPlace_yes _ _ _ (by omega) (by omega) (by omega) (by omega)).mono ?_; rintro e w' ⟨rfl, rfl⟩))
  go_quiet (fail)
  go_wp2
  all_goals
    go_ret
    exact ⟨by simp [nearB, *], by repeat (first | exact Kp.refl _ | refine Kp.alloc ?_ _ | refine Kp.drewN ?_ _)⟩

theorem isRadio_ok (d c s l h x y : Int) (w : World) (hd0 : 0 ≤ d) (hd : d ≤ 2) (hc0 : 0 ≤ c) (hc : c < 16) (hx0 : 0 ≤ x) (hx : x ≤ 10000) (hy0 : 0 ≤ y) (hy : y ≤ 10000) :
    Calls Tryd.prog 30 #[.agg #[.int .i64 d, .int .i64 c, .int .i64 s, .int .i64 l, .int .i64 h], .agg #[.int .i64 x, .int .i64 y]] w fun e w' => e = .returned (.bool true) ∧ Kp w w' := by
  have hn : nearB x y x y 0 = true := by simp [nearB]
  have h3 : d = 0 ∨ d = 1 ∨ d = 2 := by omega
  rcases h3 with rfl | rfl | rfl
  all_goals
    go_enter Tryd.func30, Tryd.ntmps30
    go_wp2_with (go_at_call 33; refine (near_ok _ _ _ _ _ _ (by omega) (by omega) (by omega) (by omega) (by omega) (by omega) (by omega) (by omega) (by omega) (by omega)).mono ?_; rintro e w' ⟨rfl, hk⟩; rw [hn])
    go_ret
    exact ⟨rfl, Kp.trans (by repeat (first | exact Kp.refl _ | refine Kp.alloc ?_ _)) hk⟩

theorem indexFunc_nil (f : Value) (w : World) : Calls Tryd.prog 40 #[.slice none 0 0, f] w fun e w' => e = .returned (.int .i64 (-1)) ∧ w = w' := by
  go_enter Tryd.func40, Tryd.ntmps40
  go_wp2
  go_loop [5, 8] (fun _ i => i = .int .i64 0) (fun _ _ => 0)
  case atStart => exact rfl
  case round =>
    subst hrel
    go_wp2
    go_ret
    exact ⟨rfl, rfl⟩

theorem containsFunc_nil (f : Value) (w : World) : Calls Tryd.prog 34 #[.slice none 0 0, f] w fun e w' => e = .returned (.bool false) ∧ w = w' := by
  go_enter Tryd.func34, Tryd.ntmps34
  go_wp2_with (go_at_call 40; refine (indexFunc_nil _ _).mono ?_; rintro e w' ⟨rfl, rfl⟩)
  go_ret
  exact ⟨rfl, rfl⟩

theorem jammed_nil (x y c a : Int) (w : World) : Calls Tryd.prog 31 #[.slice none 0 0, .agg #[.int .i64 x, .int .i64 y], .int .i64 c, .int .i64 a] w fun e w' => e = .returned (.bool false) ∧ Kp w w' := by
  go_enter Tryd.func31, Tryd.ntmps31
  go_wp2_with (go_at_call 34; refine (containsFunc_nil _ _).mono ?_; rintro e w' ⟨rfl, rfl⟩)
  go_ret
  exact ⟨rfl, by repeat (first | exact Kp.refl _ | refine Kp.alloc ?_ _)⟩

theorem heard_any (v1 v2 : Value) (r i : Int) (w : World) : Calls Tryd.prog 36 #[.agg #[v1, v2, .int .i64 r], .int .i64 i] w fun e w' =>
    e = .returned (.func (.func 41) #[] #[.pointer (some ⟨w.heap.size, 0, none⟩), .pointer (some ⟨w.heap.size + 1, 0, none⟩)]) ∧ (w.alloc (.cells #[v1, v2, .int .i64 r] 62)).alloc (.cells #[.int .i64 i] 3) = w' := by
  go_enter Tryd.func36, Tryd.ntmps36
  go_wp2
  go_ret
  exact ⟨rfl, rfl⟩
end Go.Proofs.YtbgnkopnbgaabaaDoor
