/-
  The walk of the iterator over the radios that a listening one hears: for every loop body that keeps what the iterator reads.
-/
import Derived.RangeFuncNested
import Derived.RangeFuncBound
import Derived.RangeFuncCalls
import Derived.RangeFuncLeaves
import Derived.Shelf.Abstract
import Derived.Shelf.RegionOpen
import Derived.OwnWalkIn
import Derived.TacticsInMore
import Derived.LoopNIn
import Derived.LoopIn
import Derived.Test.YtbgnkopnbgaabaaDoorOffA
import Derived.Test.YtbgnkopnbgaabaaDoorOffR
namespace Go.Proofs.YtbgnkopnbgaabaaDoor
open Go.RowKit Go.Shelf
attribute [local go_sem] Oper.semAt_some

/-- The worlds in which what was there is as it was. -/
structure WC (W0 : World) where
  w : World
  kp : Kp W0 w
instance (W0 : World) : Nonempty (WC W0) := ⟨⟨W0, Kp.refl W0⟩⟩

theorem Kp.grown {a b : World} (h : Kp a b) : a.grownBy b none := ⟨h.os, h.tape, h.output, h.size, fun i hi _ => h.block i hi⟩

theorem calls_wc {P : Program} {f : FuncId} {args : Array Value} {v : Value} {W0 : World} {t : WC W0} (h : Calls P f args t.w fun e w' => e = .returned v ∧ Kp t.w w') :
    Calls P f args t.w fun e w'' => e = .returned v ∧ ∃ t' : WC W0, w'' = t'.w := h.mono fun _ _ ⟨he, hk⟩ => ⟨he, ⟨_, t.kp.trans hk⟩, rfl⟩

/-- An action; a place; rows of them in memory. -/
structure Ac where
  d : Int
  c : Int
  s : Int
  l : Int
  h : Int
structure Pc where
  x : Int
  y : Int
structure RowA (w : World) (b o n : Nat) (f : Nat → Ac) : Prop where
  d : ∀ k, k < n → w.cell? ⟨b, o + k * 5, none⟩ = some (.int .i64 (f k).d)
  c : ∀ k, k < n → w.cell? ⟨b, o + k * 5 + 1, none⟩ = some (.int .i64 (f k).c)
  s : ∀ k, k < n → w.cell? ⟨b, o + k * 5 + 2, none⟩ = some (.int .i64 (f k).s)
  l : ∀ k, k < n → w.cell? ⟨b, o + k * 5 + 3, none⟩ = some (.int .i64 (f k).l)
  h : ∀ k, k < n → w.cell? ⟨b, o + k * 5 + 4, none⟩ = some (.int .i64 (f k).h)
structure RowP (w : World) (b o n : Nat) (p : Nat → Pc) : Prop where
  x : ∀ k, k < n → w.cell? ⟨b, o + k * 2, none⟩ = some (.int .i64 (p k).x)
  y : ∀ k, k < n → w.cell? ⟨b, o + k * 2 + 1, none⟩ = some (.int .i64 (p k).y)
theorem RowA.kp {w w' : World} {b o n : Nat} {f : Nat → Ac} (h : RowA w b o n f) (k : Kp w w') : RowA w' b o n f :=
  ⟨fun i hi => k.cell (h.d i hi), fun i hi => k.cell (h.c i hi), fun i hi => k.cell (h.s i hi), fun i hi => k.cell (h.l i hi), fun i hi => k.cell (h.h i hi)⟩
theorem RowP.kp {w w' : World} {b o n : Nat} {p : Nat → Pc} (h : RowP w b o n p) (k : Kp w w') : RowP w' b o n p := ⟨fun i hi => k.cell (h.x i hi), fun i hi => k.cell (h.y i hi)⟩

/-- All that the iterator reads. -/
structure Env (n b1 o1 c1 b2 o2 c2 : Nat) (f : Nat → Ac) (p : Nat → Pc) (r i : Int) (B1 B2 : Nat) (w : World) : Prop where
  rowA : RowA w b1 o1 n f
  rowP : RowP w b2 o2 n p
  act : w.cell? ⟨B1, 0, none⟩ = some (.slice (some ⟨b1, o1, none⟩) n c1)
  plc : w.cell? ⟨B1, 1, none⟩ = some (.slice (some ⟨b2, o2, none⟩) n c2)
  rad : w.cell? ⟨B1, 2, none⟩ = some (.int .i64 r)
  idx : w.cell? ⟨B2, 0, none⟩ = some (.int .i64 i)
theorem Env.kp {n b1 o1 c1 b2 o2 c2 : Nat} {f : Nat → Ac} {p : Nat → Pc} {r i : Int} {B1 B2 : Nat} {w w' : World} (h : Env n b1 o1 c1 b2 o2 c2 f p r i B1 B2 w) (k : Kp w w') : Env n b1 o1 c1 b2 o2 c2 f p r i B1 B2 w' :=
  ⟨h.rowA.kp k, h.rowP.kp k, k.cell h.act, k.cell h.plc, k.cell h.rad, k.cell h.idx⟩

def hearsB (f : Nat → Ac) (p : Nat → Pc) (r : Int) (i k : Nat) : Bool := (f k).d == 2 && (f k).c == (f i).c && nearB (p k).x (p k).y (p i).x (p i).y r
def heardL (f : Nat → Ac) (p : Nat → Pc) (r : Int) (i n : Nat) : List Nat := (List.range n).filter (hearsB f p r i)
theorem heardL_succ (f : Nat → Ac) (p : Nat → Pc) (r : Int) (i n : Nat) : heardL f p r i (n + 1) = heardL f p r i n ++ if hearsB f p r i n then [n] else [] := by
  unfold heardL
  rw [List.range_succ, List.filter_append]
  cases h : hearsB f p r i n <;> simp [h]
theorem heardL_le (f : Nat → Ac) (p : Nat → Pc) (r : Int) (i n : Nat) : (heardL f p r i n).length ≤ n := by
  have := List.length_filter_le (hearsB f p r i) (List.range n)
  simpa [heardL] using this

structure GoodP (n : Nat) (p : Nat → Pc) : Prop where
  ok : ∀ k, k < n → 0 ≤ (p k).x ∧ (p k).x ≤ 10000 ∧ 0 ≤ (p k).y ∧ (p k).y ≤ 10000

set_option maxRecDepth 100000 in
set_option maxHeartbeats 400000 in
theorem heard1_in (m l n b1 o1 c1 b2 o2 c2 i B1 B2 : Nat) (f : Nat → Ac) (p : Nat → Pc) (r : Int) (hn : n ≤ 1000) (hi : i < n) (hp : GoodP n p) (hr0 : 0 ≤ r) (hr : r ≤ 20000) (J Jx : List Nat → World → Prop) (W : World) (hJ : AbidesFrom W.heap.size J)
    (hY : ∀ pre x W1, J pre W1 → pre.length < n → YieldAt Fence.wide (m - 1) Tryd.prog l #[.int .i64 (x : Nat)] W1 fun e W' =>
      (e = .returned (.bool true) ∧ J (pre ++ [x]) W' ∧ (Env n b1 o1 c1 b2 o2 c2 f p r i B1 B2 W1 → Env n b1 o1 c1 b2 o2 c2 f p r i B1 B2 W')) ∨ (e = .returned (.bool false) ∧ Jx (pre ++ [x]) W'))
    (hE : Env n b1 o1 c1 b2 o2 c2 f p r i B1 B2 W) (h0 : J [] W) :
    CallsIn Fence.wide m Tryd.prog 41 #[.func (.yield l) #[] #[], .pointer (some ⟨B1, 0, none⟩), .pointer (some ⟨B2, 0, none⟩)] W fun e W' => (∃ v, e = .returned v) ∧
      ((∃ ys, ys = heardL f p r i n ∧ J ys W') ∨ (∃ pre, (∃ k, k ≤ n ∧ pre = heardL f p r i k) ∧ Jx pre W')) := by
  refine callsIn_of_wp Tryd.func41 rfl trivial ?_ rfl
  simp only [Tryd.ntmps41, List.size_toArray, List.length_cons, List.length_nil, Nat.reduceAdd, Nat.reduceSub, Array.replicate_succ, Array.replicate_zero, List.push_toArray, List.append_toArray, List.nil_append, List.cons_append]
  have hc0 := hE.act
  gi_wp2
  gi_loopw [9] (fun q wr => ∃ k : Nat, k ≤ n ∧ q = .int .i64 k ∧ J (heardL f p r i k) wr ∧ Env n b1 o1 c1 b2 o2 c2 f p r i B1 B2 wr)
    (fun q _ => n - (intOf q).toNat)
  case atStart => exact ⟨0, Nat.zero_le _, rfl, h0, hE⟩
  case round =>
    obtain ⟨k, hk, rfl, hJs, hE1⟩ := hrel
    clear hc0
    by_cases hlt : k < n
    · have a0 := hE1.rowA.d k hlt
      have a1 := hE1.rowA.c k hlt
      have a2 := hE1.rowA.s k hlt
      have a3 := hE1.rowA.l k hlt
      have a4 := hE1.rowA.h k hlt
      gi_wp2
      have e0 := (World.cell?_alloc_new wr #[.int .i64 (f k).d, .int .i64 (f k).c, .int .i64 (f k).s, .int .i64 (f k).l, .int .i64 (f k).h] 56 0)
      have e1 := (World.cell?_alloc_new wr #[.int .i64 (f k).d, .int .i64 (f k).c, .int .i64 (f k).s, .int .i64 (f k).l, .int .i64 (f k).h] 56 1)
      have kp0 : Kp wr (wr.alloc (.cells #[.int .i64 (f k).d, .int .i64 (f k).c, .int .i64 (f k).s, .int .i64 (f k).l, .int .i64 (f k).h] 56)) := (Kp.refl wr).alloc _
      generalize wr.alloc (.cells #[.int .i64 (f k).d, .int .i64 (f k).c, .int .i64 (f k).s, .int .i64 (f k).l, .int .i64 (f k).h] 56) = W0 at e0 e1 kp0 ⊢
      have hE2 := hE1.kp kp0
      clear a0 a1 a2 a3 a4
      have t0 : ∀ t : WC W0, t.w.cell? ⟨wr.heap.size, 0, none⟩ = some (.int .i64 (f k).d) := fun t => t.kp.cell e0
      have t1 : ∀ t : WC W0, t.w.cell? ⟨wr.heap.size, 1, none⟩ = some (.int .i64 (f k).c) := fun t => t.kp.cell e1
      have t2 : ∀ t : WC W0, t.w.cell? ⟨B1, 0, none⟩ = some (.slice (some ⟨b1, o1, none⟩) n c1) := fun t => t.kp.cell hE2.act
      have t3 : ∀ t : WC W0, t.w.cell? ⟨B1, 1, none⟩ = some (.slice (some ⟨b2, o2, none⟩) n c2) := fun t => t.kp.cell hE2.plc
      have t4 : ∀ t : WC W0, t.w.cell? ⟨B1, 2, none⟩ = some (.int .i64 r) := fun t => t.kp.cell hE2.rad
      have t5 : ∀ t : WC W0, t.w.cell? ⟨B2, 0, none⟩ = some (.int .i64 i) := fun t => t.kp.cell hE2.idx
      have t6 : ∀ t : WC W0, t.w.cell? ⟨b1, o1 + i * 5 + 1, none⟩ = some (.int .i64 (f i).c) := fun t => t.kp.cell (hE2.rowA.c i hi)
      have t7 : ∀ t : WC W0, t.w.cell? ⟨b2, o2 + k * 2, none⟩ = some (.int .i64 (p k).x) := fun t => t.kp.cell (hE2.rowP.x k hlt)
      have t8 : ∀ t : WC W0, t.w.cell? ⟨b2, o2 + k * 2 + 1, none⟩ = some (.int .i64 (p k).y) := fun t => t.kp.cell (hE2.rowP.y k hlt)
      have t9 : ∀ t : WC W0, t.w.cell? ⟨b2, o2 + i * 2, none⟩ = some (.int .i64 (p i).x) := fun t => t.kp.cell (hE2.rowP.x i hi)
      have t10 : ∀ t : WC W0, t.w.cell? ⟨b2, o2 + i * 2 + 1, none⟩ = some (.int .i64 (p i).y) := fun t => t.kp.cell (hE2.rowP.y i hi)
      have hpk := hp.ok k hlt
      have hpi := hp.ok i hi
      have hN : ∀ t : WC W0, Calls Tryd.prog 33 #[.agg #[.int .i64 (p k).x, .int .i64 (p k).y], .agg #[.int .i64 (p i).x, .int .i64 (p i).y], .int .i64 r] t.w fun e w' => e = .returned (.bool (nearB (p k).x (p k).y (p i).x (p i).y r)) ∧ Kp t.w w' :=
        fun t => near_ok _ _ _ _ _ _ hpk.1 hpk.2.1 hpk.2.2.1 hpk.2.2.2 hpi.1 hpi.2.1 hpi.2.2.1 hpi.2.2.2 hr0 hr
      have hsucc := Lib.hid (heardL_succ f p r i k)
      have hJ1 : ∀ t : WC W0, J (heardL f p r i k) t.w := fun t => hJ _ _ _ none hJs (kp0.trans t.kp).grown (fun _ h => by cases h)
      by_cases g1 : ((f k).d == 2) = true
      · by_cases g2 : ((f k).c == (f i).c) = true
        · cases g3 : nearB (p k).x (p k).y (p i).x (p i).y r with
          | true =>
            have hb : hearsB f p r i k = true := by simp only [hearsB, g1, g2, g3, Bool.and_self]
            rw [g3] at hN
            have HN := Lib.hid hN
            clear hN
            refine wpIn_region_quiet_tail (fun w' => ∃ t : WC W0, w' = t.w) 32 _ (by kernel_rfl) (by kernel_rfl) ⟨⟨_, (Kp.refl W0).drewN 1⟩, rfl⟩ ?_
            simp only [List.take, List.drop]
            repeat (go_big_quiet_step ((go_at_call 33; exact calls_wc (HN.out _))))
            refine wpQuiet_nil ?_
            rintro _ ⟨t, rfl⟩
            obtain ⟨fn, tmps, assign, body, hy, hR⟩ := hY _ k t.w (hJ1 t) (by have := heardL_le f p r i k; omega)
            have hEt := hE2.kp t.kp
            clear t0 t1 t2 t3 t4 t5 t6 t7 t8 t9 t10
            gi_wp2
            refine ⟨fun h => (by cases h), hR.mono ?_⟩
            rintro e W3 (⟨rfl, hJ3, hk3⟩ | ⟨rfl, hJx3⟩)
            · gi_wp2
              go_roundw
              case rel => exact ⟨k + 1, by omega, by simp, by rw [hsucc.out, hb]; exact hJ3, hk3 hEt⟩
              case measure => simp [intOf]; omega
            · gi_wp2
              refine bodyPost_ret (results_none rfl _ _ _) rfl ?_
              exact ⟨⟨_, rfl⟩, .inr ⟨_, ⟨k + 1, by omega, by rw [hsucc.out, hb]; rfl⟩, hJx3⟩⟩
          | false =>
            have hb : hearsB f p r i k = false := by simp only [hearsB, g1, g2, g3, Bool.and_false]
            rw [g3] at hN
            have HN := Lib.hid hN
            clear hN
            refine wpIn_region_quiet_tail (fun w' => ∃ t : WC W0, w' = t.w) 32 _ (by kernel_rfl) (by kernel_rfl) ⟨⟨_, (Kp.refl W0).drewN 1⟩, rfl⟩ ?_
            simp only [List.take, List.drop]
            repeat (go_big_quiet_step ((go_at_call 33; exact calls_wc (HN.out _))))
            refine wpQuiet_nil ?_
            rintro _ ⟨t, rfl⟩
            have hJt := hJ1 t
            have hEt := hE2.kp t.kp
            clear t0 t1 t2 t3 t4 t5 t6 t7 t8 t9 t10 hJ1
            gi_wp2
            refine ⟨fun _ h => (by cases h), ?_⟩
            gi_wp2
            go_roundw
            case rel => exact ⟨k + 1, by omega, by simp, by rw [hsucc.out, hb]; simpa using hJt, hEt⟩
            case measure => simp [intOf]; omega
        · have g2' : ((f k).c == (f i).c) = false := by simpa using g2
          have hb : hearsB f p r i k = false := by simp only [hearsB, g1, g2', Bool.and_false, Bool.false_and]
          clear g2
          refine wpIn_region_quiet_tail (fun w' => ∃ t : WC W0, w' = t.w) 32 _ (by kernel_rfl) (by kernel_rfl) ⟨⟨_, (Kp.refl W0).drewN 1⟩, rfl⟩ ?_
          simp only [List.take, List.drop]
          repeat (go_big_quiet_step (fail))
          refine wpQuiet_nil ?_
          rintro _ ⟨t, rfl⟩
          have hJt := hJ1 t
          have hEt := hE2.kp t.kp
          clear t0 t1 t2 t3 t4 t5 t6 t7 t8 t9 t10 hJ1
          gi_wp2
          refine ⟨fun _ h => (by cases h), ?_⟩
          gi_wp2
          go_roundw
          case rel => exact ⟨k + 1, by omega, by simp, by rw [hsucc.out, hb]; simpa using hJt, hEt⟩
          case measure => simp [intOf]; omega
      · have g1' : ((f k).d == 2) = false := by simpa using g1
        have hb : hearsB f p r i k = false := by simp only [hearsB, g1', Bool.false_and]
        clear g1
        refine wpIn_region_quiet_tail (fun w' => ∃ t : WC W0, w' = t.w) 32 _ (by kernel_rfl) (by kernel_rfl) ⟨⟨_, (Kp.refl W0).drewN 1⟩, rfl⟩ ?_
        simp only [List.take, List.drop]
        repeat (go_big_quiet_step (fail))
        refine wpQuiet_nil ?_
        rintro _ ⟨t, rfl⟩
        have hJt := hJ1 t
        have hEt := hE2.kp t.kp
        clear t0 t1 t2 t3 t4 t5 t6 t7 t8 t9 t10 hJ1
        gi_wp2
        refine ⟨fun _ h => (by cases h), ?_⟩
        gi_wp2
        go_roundw
        case rel => exact ⟨k + 1, by omega, by simp, by rw [hsucc.out, hb]; simpa using hJt, hEt⟩
        case measure => simp [intOf]; omega
    · obtain rfl : k = n := by omega
      gi_wp2
      go_end0
      exact ⟨⟨_, rfl⟩, .inl ⟨_, rfl, hJs⟩⟩
end Go.Proofs.YtbgnkopnbgaabaaDoor
