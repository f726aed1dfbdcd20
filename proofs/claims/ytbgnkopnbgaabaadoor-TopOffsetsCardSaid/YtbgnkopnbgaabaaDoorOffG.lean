/-
  The walk of the head of TopOffsets: two senders near a listener.
-/
import Derived.Test.YtbgnkopnbgaabaaDoorOffF
namespace Go.Proofs.YtbgnkopnbgaabaaDoor
open Go.RowKit Go.Shelf

def gA : Nat → Rc
  | 0 => ⟨2, 3, 0, 0, 0, 0⟩
  | 1 => ⟨2, 4, 0, 0, 0, 0⟩
  | _ => ⟨1, 3, 0, 0, 0, 0⟩
def gB : Nat → Rc
  | 0 => ⟨2, 3, 0, 0, 0, 0⟩
  | 1 => ⟨2, 3, 0, 0, 0, 0⟩
  | _ => ⟨1, 3, 0, 0, 0, 0⟩
theorem lt3 {P : Nat → Prop} (h0 : P 0) (h1 : P 1) (h2 : P 2) : ∀ k, k < 3 → P k := fun k hk => by
  match k, hk with
  | 0, _ => exact h0
  | 1, _ => exact h1
  | 2, _ => exact h2
theorem goodA : GoodR 3 gA := ⟨lt3 (by decide) (by decide) (by decide), lt3 (by decide) (by decide) (by decide), lt3 (by decide) (by decide) (by decide), lt3 (by decide) (by decide) (by decide), lt3 (by decide) (by decide) (by decide)⟩
theorem goodB : GoodR 3 gB := ⟨lt3 (by decide) (by decide) (by decide), lt3 (by decide) (by decide) (by decide), lt3 (by decide) (by decide) (by decide), lt3 (by decide) (by decide) (by decide), lt3 (by decide) (by decide) (by decide)⟩
def vA : Nat → Int
  | 0 => -1
  | 1 => -1
  | _ => 0
def vB : Nat → Int
  | 0 => -1
  | 1 => -1
  | _ => -2
theorem outA : ∀ k, k < 3 → outV (actOf 7 gA) (plcOf gA) 10 3 k = vA k := lt3 (by decide) (by decide) (by decide)
theorem outB : ∀ k, k < 3 → outV (actOf 7 gB) (plcOf gB) 10 3 k = vB k := lt3 (by decide) (by decide) (by decide)

abbrev cellsA : Array Value := #[.int .i64 2, .int .u8 3, .int .i64 0, .int .i64 0, .int .i16 0, .int .u8 0, .int .i64 2, .int .u8 4, .int .i64 0, .int .i64 0, .int .i16 0, .int .u8 0, .int .i64 1, .int .u8 3, .int .i64 0, .int .i64 0, .int .i16 0, .int .u8 0]

theorem rowA0 (w : World) : RowR (w.alloc (.cells cellsA 40)) w.heap.size 0 3 gA := by
  have e := fun j => World.cell?_alloc_new w cellsA 40 j
  exact ⟨lt3 (e 0) (e 6) (e 12), lt3 (e 1) (e 7) (e 13), lt3 (e 2) (e 8) (e 14), lt3 (e 3) (e 9) (e 15), lt3 (e 4) (e 10) (e 16), lt3 (e 5) (e 11) (e 17)⟩

theorem cell_setOff {w : World} {b i j : Nat} {v u : Value} (h : w.cell? ⟨b, j, none⟩ = some u) (hne : i ≠ j) : (w.setCell ⟨b, i, none⟩ v).cell? ⟨b, j, none⟩ = some u := by
  rw [World.cell?_setCell_other _ _ _ _ (fun e => hne (congrArg Addr.off e)), h]
theorem cell_setSame {w : World} {p : Addr} {v u : Value} (h : w.cell? p = some u) : (w.setCell p v).cell? p = some v := World.cell?_setCell_same' _ _ _ (by rw [h]; rfl)

theorem rowB0 {w : World} {b : Nat} (h : RowR w b 0 3 gA) : RowR (w.setCell ⟨b, 7, none⟩ (.int .u8 3)) b 0 3 gB := by
  have h0 : (0 : Nat) < 3 := by omega
  have h1 : (1 : Nat) < 3 := by omega
  have h2 : (2 : Nat) < 3 := by omega
  exact ⟨lt3 (cell_setOff (h.d 0 h0) (by omega)) (cell_setOff (h.d 1 h1) (by omega)) (cell_setOff (h.d 2 h2) (by omega)),
    lt3 (cell_setOff (h.f 0 h0) (by omega)) (cell_setSame (h.f 1 h1)) (cell_setOff (h.f 2 h2) (by omega)),
    lt3 (cell_setOff (h.x 0 h0) (by omega)) (cell_setOff (h.x 1 h1) (by omega)) (cell_setOff (h.x 2 h2) (by omega)),
    lt3 (cell_setOff (h.y 0 h0) (by omega)) (cell_setOff (h.y 1 h1) (by omega)) (cell_setOff (h.y 2 h2) (by omega)),
    lt3 (cell_setOff (h.s 0 h0) (by omega)) (cell_setOff (h.s 1 h1) (by omega)) (cell_setOff (h.s 2 h2) (by omega)),
    lt3 (cell_setOff (h.v 0 h0) (by omega)) (cell_setOff (h.v 1 h1) (by omega)) (cell_setOff (h.v 2 h2) (by omega))⟩

set_option maxRecDepth 100000 in
theorem radios_any (w : World) (hL : LaidT w) : Calls Tryd.prog 18 #[] w fun e w' => e = .returned (.bool true) ∧ Kp w w' := by
  go_enter Tryd.func18, Tryd.ntmps18
  go_wp2_with fail
  have hK0 : Kp w (w.alloc (.cells cellsA 40)) := (Kp.refl w).alloc _
  have hR0 := rowA0 w
  have hF0 := World.frozen?_alloc_new w cellsA 40 7
  refine (caught_ok 3 w.heap.size 0 3 gA 10 7 (w.alloc (.cells cellsA 40)) (by omega) (by omega) goodA (by omega) (by omega) (by omega) (by omega) (hL.kp hK0) hR0).mono ?_
  rintro e w1 ⟨B1, rfl, hk1, hB1, hO1⟩
  have hR1 := hR0.kp hk1
  have hF1 := hk1.froz (hR0.f 1 (by omega)) hF0
  have r1 : w1.cell? ⟨w.heap.size, 7, none⟩ = some (.int .u8 4) := hR1.f 1 (by omega)
  have hR2 := rowB0 hR1
  have hK1 : Kp w (w1.setCell ⟨w.heap.size, 7, none⟩ (.int .u8 3)) := Below.setCell (hK0.trans hk1) (Nat.le_refl _) _
  have hs1 : w.heap.size < w1.heap.size := World.block_lt_of_cell? _ _ r1
  have hBs : w.heap.size + 1 ≤ B1 := by simpa using hB1
  clear hR0 hF0 hB1
  go_wp2_with fail
  refine (caught_ok 3 w.heap.size 0 3 gB 10 7 (w1.setCell ⟨w.heap.size, 7, none⟩ (.int .u8 3)) (by omega) (by omega) goodB (by omega) (by omega) (by omega) (by omega) (hL.kp hK1) hR2).mono ?_
  rintro e w2 ⟨B2, rfl, hk2, hB2, hO2⟩
  have hK2 := hK1.trans hk2
  have o1 : ∀ k, k < 3 → w2.cell? ⟨B1, k, none⟩ = some (.int .i64 (vA k)) := fun k hk => by
    have h := hO1.done k hk
    rw [outA k hk] at h
    exact hk2.cell (cell_set h (by simp only; omega))
  have o2 : ∀ k, k < 3 → w2.cell? ⟨B2, k, none⟩ = some (.int .i64 (vB k)) := fun k hk => by
    have h := hO2.done k hk
    rwa [outB k hk] at h
  clear r1 hF1
  go_wp2_with fail
  refine (same_yes 3 B1 w2.heap.size 3 3 vA _ (by omega) (fun k hk => ((Kp.refl w2).alloc _).cell (o1 k hk)) (lt3 (World.cell?_alloc_new w2 #[.int .i64 (-1), .int .i64 (-1), .int .i64 0] 3 0) (World.cell?_alloc_new w2 #[.int .i64 (-1), .int .i64 (-1), .int .i64 0] 3 1) (World.cell?_alloc_new w2 #[.int .i64 (-1), .int .i64 (-1), .int .i64 0] 3 2))).mono ?_
  rintro e w3 ⟨rfl, hk3⟩
  have hK3 := (hK2.alloc _).trans hk3
  have o2' := fun k hk => ((((Kp.refl w2).alloc _).trans hk3)).cell (o2 k hk)
  go_wp2_with fail
  refine (same_yes 3 B2 w3.heap.size 3 3 vB _ (by omega) (fun k hk => ((Kp.refl w3).alloc _).cell (o2' k hk)) (lt3 (World.cell?_alloc_new w3 #[.int .i64 (-1), .int .i64 (-1), .int .i64 (-2)] 3 0) (World.cell?_alloc_new w3 #[.int .i64 (-1), .int .i64 (-1), .int .i64 (-2)] 3 1) (World.cell?_alloc_new w3 #[.int .i64 (-1), .int .i64 (-1), .int .i64 (-2)] 3 2))).mono ?_
  rintro e w4 ⟨rfl, hk4⟩
  have hK4 := (hK3.alloc _).trans hk4
  go_wp2
  go_ret
  exact ⟨rfl, hK4⟩
end Go.Proofs.YtbgnkopnbgaabaaDoor
