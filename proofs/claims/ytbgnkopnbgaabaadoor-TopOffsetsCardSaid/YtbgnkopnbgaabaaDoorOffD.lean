/-
  The walk of medium.Catch without jammers, at valid radios.
-/
import Derived.Test.YtbgnkopnbgaabaaDoorOffC
import Derived.Deep.OwnRows
namespace Go.Proofs.YtbgnkopnbgaabaaDoor
open Go.RowKit Go.Shelf

theorem wp_region_quiet_c {P : Program} {l : List Oper} {id : Nat} {Q : Exit → Act → World → Prop} {a : Act} {w : World} (C : World → Prop) (hm : P.follows .mixedOrders = true) (hB : Region.lexB .any l.toArray = true) (hC : C { w with drawn := w.drawn + 1 })
    (h : wpQuiet P l.toArray C (fun a' => ∀ w', C w' → Q .normal a' w') l a) : (Code.region id l.toArray true).wp P Q a w := wp_region_quiet hm hB hC (by simpa using h)

structure GoodA (n : Nat) (f : Nat → Ac) : Prop where
  d : ∀ k, k < n → 0 ≤ (f k).d ∧ (f k).d ≤ 2
  c : ∀ k, k < n → 0 ≤ (f k).c ∧ (f k).c < 16

def outV (f : Nat → Ac) (p : Nat → Pc) (r : Int) (n k : Nat) : Int := if (f k).d == 1 then catchV f p r k n else -1

/-- The row that Catch fills. -/
structure OutRow (f : Nat → Ac) (p : Nat → Pc) (r : Int) (n b k : Nat) (w : World) : Prop where
  done : ∀ j, j < k → w.cell? ⟨b, j, none⟩ = some (.int .i64 (outV f p r n j))
  cell : ∀ j, j < n → ∃ v, w.cell? ⟨b, j, none⟩ = some (.int .i64 v)
  frozen : ∀ j, w.frozen? ⟨b, j, none⟩ = false
theorem OutRow.kp {f : Nat → Ac} {p : Nat → Pc} {r : Int} {n b k : Nat} {w w' : World} (h : OutRow f p r n b k w) (hn : 0 < n) (hk : Kp w w') : OutRow f p r n b k w' := by
  obtain ⟨v, hv⟩ := h.cell 0 hn
  have hb : b < w.heap.size := World.block_lt_of_cell? w _ hv
  exact ⟨fun j hj => hk.cell (h.done j hj), fun j hj => let ⟨v, hv⟩ := h.cell j hj; ⟨v, hk.cell hv⟩, fun j => (Below.frozen hk (p := ⟨b, j, none⟩) hb).trans (h.frozen j)⟩
theorem OutRow.step {f : Nat → Ac} {p : Nat → Pc} {r : Int} {n b k : Nat} {w : World} (h : OutRow f p r n b k w) (hk : k < n) (v : Int) (hv : v = outV f p r n k) : OutRow f p r n b (k + 1) (w.setCell ⟨b, k, none⟩ (.int .i64 v)) := by
  subst hv
  obtain ⟨u, hu⟩ := h.cell k hk
  have hs : (w.setCell ⟨b, k, none⟩ (.int .i64 (outV f p r n k))).cell? ⟨b, k, none⟩ = some (.int .i64 (outV f p r n k)) := World.cell?_setCell_same' _ _ _ (by rw [hu]; rfl)
  have ho : ∀ j, j ≠ k → (w.setCell ⟨b, k, none⟩ (.int .i64 (outV f p r n k))).cell? ⟨b, j, none⟩ = w.cell? ⟨b, j, none⟩ := fun j hj => World.cell?_setCell_other _ _ _ _ (fun e => hj (congrArg Addr.off e).symm)
  refine ⟨fun j hj => ?_, fun j hj => ?_, fun j => by rw [World.frozen?_setCell]; exact h.frozen j⟩
  · by_cases e : j = k
    · rw [e]; exact hs
    · rw [ho j e]; exact h.done j (by omega)
  · by_cases e : j = k
    · rw [e]; exact ⟨_, hs⟩
    · rw [ho j e]; exact h.cell j hj
structure Air (n b1 o1 c1 b2 o2 c2 : Nat) (r : Int) (B : Nat) (w : World) : Prop where
  act : w.cell? ⟨B, 0, none⟩ = some (.slice (some ⟨b1, o1, none⟩) n c1)
  plc : w.cell? ⟨B, 1, none⟩ = some (.slice (some ⟨b2, o2, none⟩) n c2)
  rad : w.cell? ⟨B, 2, none⟩ = some (.int .i64 r)
theorem Air.kp {n b1 o1 c1 b2 o2 c2 : Nat} {r : Int} {B : Nat} {w w' : World} (h : Air n b1 o1 c1 b2 o2 c2 r B w) (k : Kp w w') : Air n b1 o1 c1 b2 o2 c2 r B w' := ⟨k.cell h.act, k.cell h.plc, k.cell h.rad⟩
theorem Air.set {n b1 o1 c1 b2 o2 c2 : Nat} {r : Int} {B : Nat} {w : World} (h : Air n b1 o1 c1 b2 o2 c2 r B w) (a : Addr) (v : Value) (hne : a.block ≠ B) : Air n b1 o1 c1 b2 o2 c2 r B (w.setCell a v) := ⟨cell_set h.act hne, cell_set h.plc hne, cell_set h.rad hne⟩
theorem made_at (z : Value) (n j : Nat) (hj : j < n) : (madeCells #[z] n)[j]? = some z := by
  rw [← Array.getElem?_toList, toList_madeCells_one, List.getElem?_replicate, if_pos hj]
theorem Trydinfo3 : (Tryd.prog.info? 3).map (fun i => (i.zero, i.size, i.bytes)) = some (some (.int .i64 0), 1, 8) := by kernel_rfl

set_option maxRecDepth 100000 in
set_option maxHeartbeats 1000000 in
theorem Catch_ok (n b1 o1 c1 b2 o2 c2 : Nat) (f : Nat → Ac) (p : Nat → Pc) (r a : Int) (w : World) (hn0 : 0 < n) (hn : n ≤ 200) (hp : GoodP n p) (hf : GoodA n f) (hr0 : 0 ≤ r) (hr : r ≤ 20000) (ha0 : 0 ≤ a) (ha : a ≤ 1000000000) (hA : RowA w b1 o1 n f) (hP : RowP w b2 o2 n p) :
    Calls Tryd.prog 29 #[.slice (some ⟨b1, o1, none⟩) n c1, .slice (some ⟨b2, o2, none⟩) n c2, .int .i64 r, .slice none 0 0, .int .i64 a] w fun e w' =>
      ∃ B, e = .returned (.tuple #[.slice (some ⟨B, 0, none⟩) n n, .int .i64 0]) ∧ Kp w w' ∧ w.heap.size ≤ B ∧ OutRow f p r n B n w' := by
  have hmk := fun wx => run_make_row' (P := Tryd.prog) 41 3 (.int .i64 0) 8 Tryd.underlying41 Trydinfo3 rfl .i64 .i64 n (by omega) (by omega) wx
  have b0 : ((n : Int) != n) = false := by simp
  have b3 : ((n : Int) == n) = true := by simp
  go_enter Tryd.func29, Tryd.ntmps29
  go_wp2
  go_loopw [46] (fun q wr => ∃ k : Nat, k ≤ n ∧ q = .int .i64 k ∧ Kp w wr) (fun q _ => n - (intOf q).toNat)
  case atStart => exact ⟨0, by omega, rfl, Kp.refl _⟩
  case round =>
    obtain ⟨k, hk, rfl, hK⟩ := hrel
    by_cases hlt : k < n
    · have a0 := (hA.kp hK).d k hlt
      have a1 := (hA.kp hK).c k hlt
      have a2 := (hA.kp hK).s k hlt
      have a3 := (hA.kp hK).l k hlt
      have a4 := (hA.kp hK).h k hlt
      go_wp2
      have e0 := fun j => World.cell?_alloc_new wr #[.int .i64 (f k).d, .int .i64 (f k).c, .int .i64 (f k).s, .int .i64 (f k).l, .int .i64 (f k).h] 56 j
      have kp0 : Kp wr (wr.alloc (.cells #[.int .i64 (f k).d, .int .i64 (f k).c, .int .i64 (f k).s, .int .i64 (f k).l, .int .i64 (f k).h] 56)) := (Kp.refl wr).alloc _
      generalize wr.alloc (.cells #[.int .i64 (f k).d, .int .i64 (f k).c, .int .i64 (f k).s, .int .i64 (f k).l, .int .i64 (f k).h] 56) = W0 at e0 kp0 ⊢
      clear a0 a1 a2 a3 a4
      have hPk := hP.kp (hK.trans kp0)
      have t0 : ∀ t : WC W0, t.w.cell? ⟨wr.heap.size, 0, none⟩ = some (.int .i64 (f k).d) := fun t => t.kp.cell (e0 0)
      have t1 : ∀ t : WC W0, t.w.cell? ⟨wr.heap.size, 1, none⟩ = some (.int .i64 (f k).c) := fun t => t.kp.cell (e0 1)
      have t2 : ∀ t : WC W0, t.w.cell? ⟨wr.heap.size, 2, none⟩ = some (.int .i64 (f k).s) := fun t => t.kp.cell (e0 2)
      have t3 : ∀ t : WC W0, t.w.cell? ⟨wr.heap.size, 3, none⟩ = some (.int .i64 (f k).l) := fun t => t.kp.cell (e0 3)
      have t4 : ∀ t : WC W0, t.w.cell? ⟨wr.heap.size, 4, none⟩ = some (.int .i64 (f k).h) := fun t => t.kp.cell (e0 4)
      have t7 : ∀ t : WC W0, t.w.cell? ⟨b2, o2 + k * 2, none⟩ = some (.int .i64 (p k).x) := fun t => t.kp.cell (hPk.x k hlt)
      have t8 : ∀ t : WC W0, t.w.cell? ⟨b2, o2 + k * 2 + 1, none⟩ = some (.int .i64 (p k).y) := fun t => t.kp.cell (hPk.y k hlt)
      clear e0
      refine wp_region_quiet_c (fun w' => ∃ t : WC W0, w' = t.w) (by kernel_rfl) (by kernel_rfl) ⟨⟨_, (Kp.refl W0).drewN 1⟩, rfl⟩ ?_
      repeat (go_big_quiet_step ((go_at_call 30; exact calls_wc (isRadio_ok _ _ _ _ _ _ _ _ (hf.d k hlt).1 (hf.d k hlt).2 (hf.c k hlt).1 (hf.c k hlt).2 (hp.ok k hlt).1 (hp.ok k hlt).2.1 (hp.ok k hlt).2.2.1 (hp.ok k hlt).2.2.2))))
      refine wpQuiet_nil ?_
      rintro _ ⟨t, rfl⟩
      have hKt := (hK.trans kp0).trans t.kp
      clear t0 t1 t2 t3 t4 t7 t8
      go_wp2
      go_roundw
      case rel => exact ⟨k + 1, by omega, by simp, hKt⟩
      case measure => simp [intOf]; omega
    · obtain rfl : n = k := by omega
      go_wp2
      obtain ⟨W1, rfl⟩ : ∃ W1 : World, W1 = wr := ⟨_, rfl⟩
      have e1 := fun j => World.cell?_alloc2_first (w := W1) #[.slice (some ⟨b1, o1, none⟩) n c1, .slice (some ⟨b2, o2, none⟩) n c2, .int .i64 r] 62 (.cells (madeCells #[.int .i64 0] n) 3) j
      have e2 := fun j => World.cell?_alloc2_new (w := W1) (.cells #[.slice (some ⟨b1, o1, none⟩) n c1, .slice (some ⟨b2, o2, none⟩) n c2, .int .i64 r] 62) (madeCells #[.int .i64 0] n) 3 j
      have e3 := fun j => World.frozen?_alloc2_new (w := W1) (.cells #[.slice (some ⟨b1, o1, none⟩) n c1, .slice (some ⟨b2, o2, none⟩) n c2, .int .i64 r] 62) (madeCells #[.int .i64 0] n) 3 j
      have kp2 : Kp w ((W1.alloc (.cells #[.slice (some ⟨b1, o1, none⟩) n c1, .slice (some ⟨b2, o2, none⟩) n c2, .int .i64 r] 62)).alloc (.cells (madeCells #[.int .i64 0] n) 3)) := (hK.alloc _).alloc _
      generalize (W1.alloc (.cells #[.slice (some ⟨b1, o1, none⟩) n c1, .slice (some ⟨b2, o2, none⟩) n c2, .int .i64 r] 62)).alloc (.cells (madeCells #[.int .i64 0] n) 3) = W2 at e1 e2 e3 kp2 ⊢
      have hair : Air n b1 o1 c1 b2 o2 c2 r W1.heap.size W2 := ⟨e1 0, e1 1, e1 2⟩
      have hout : OutRow f p r n (W1.heap.size + 1) 0 W2 := ⟨fun j hj => by omega, fun j hj => ⟨0, by rw [e2 j, made_at _ _ _ hj]⟩, e3⟩
      have hsz := hK.size
      clear e1 e2 e3 hmk hK
      go_loopw [68] (fun q wr => ∃ k : Nat, k ≤ n ∧ q = .int .i64 k ∧ Kp w wr ∧ Air n b1 o1 c1 b2 o2 c2 r W1.heap.size wr ∧ OutRow f p r n (W1.heap.size + 1) k wr) (fun q _ => n - (intOf q).toNat)
      case atStart => exact ⟨0, by omega, rfl, kp2, hair, hout⟩
      case round =>
        obtain ⟨k, hk, rfl, hKr, hAir, hOut⟩ := hrel
        clear hair hout kp2
        by_cases hlt : k < n
        · have a0 := (hA.kp hKr).d k hlt
          have a1 := (hA.kp hKr).c k hlt
          have a2 := (hA.kp hKr).s k hlt
          have a3 := (hA.kp hKr).l k hlt
          have a4 := (hA.kp hKr).h k hlt
          have e0 := fun j => World.cell?_alloc_new wr #[.int .i64 (f k).d, .int .i64 (f k).c, .int .i64 (f k).s, .int .i64 (f k).l, .int .i64 (f k).h] 56 j
          have kp0 : Kp wr (wr.alloc (.cells #[.int .i64 (f k).d, .int .i64 (f k).c, .int .i64 (f k).s, .int .i64 (f k).l, .int .i64 (f k).h] 56)) := (Kp.refl wr).alloc _
          by_cases g1 : ((f k).d == 1) = true
          · have g2 : ((f k).d != 1) = false := by simpa using g1
            have hv : catchV f p r k n = outV f p r n k := by unfold outV; rw [g1]; rfl
            have HV := Lib.hid hv
            clear hv
            have e00 := e0 0
            have G1 := Lib.hid g1
            clear g1
            go_wp2
            generalize wr.alloc (.cells #[.int .i64 (f k).d, .int .i64 (f k).c, .int .i64 (f k).s, .int .i64 (f k).l, .int .i64 (f k).h] 56) = W0 at e0 e00 kp0 ⊢
            have hAir0 := hAir.kp kp0
            have hOut0 := hOut.kp hn0 kp0
            have hPk := hP.kp (hKr.trans kp0)
            have t1 : ∀ t : WC W0, t.w.cell? ⟨wr.heap.size, 1, none⟩ = some (.int .i64 (f k).c) := fun t => t.kp.cell (e0 1)
            have t7 : ∀ t : WC W0, t.w.cell? ⟨b2, o2 + k * 2, none⟩ = some (.int .i64 (p k).x) := fun t => t.kp.cell (hPk.x k hlt)
            have t8 : ∀ t : WC W0, t.w.cell? ⟨b2, o2 + k * 2 + 1, none⟩ = some (.int .i64 (p k).y) := fun t => t.kp.cell (hPk.y k hlt)
            clear e0 e00 a0 a1 a2 a3 a4
            refine wp_region_quiet_c (fun w' => ∃ t : WC W0, w' = t.w) (by kernel_rfl) (by kernel_rfl) ⟨⟨_, (Kp.refl W0).drewN 1⟩, rfl⟩ ?_
            repeat (go_big_quiet_step ((go_at_call 31; exact calls_wc (jammed_nil _ _ _ _ _))))
            refine wpQuiet_nil ?_
            rintro _ ⟨t, rfl⟩
            have hKt := hKr.trans (kp0.trans t.kp)
            have hAirt := hAir0.kp t.kp
            have hOutt := hOut0.kp hn0 t.kp
            have x1 := hAirt.act
            have x2 := hAirt.plc
            have x3 := hAirt.rad
            clear t1 t7 t8
            go_wp2_with fail
            refine (catch_ok n b1 o1 c1 b2 o2 c2 k f p r _ (by omega) hlt hp hr0 hr (hA.kp hKt) (hP.kp hKt)).mono ?_
            rintro e w3 ⟨rfl, hk3⟩
            have hOut3 := hOutt.kp hn0 hk3
            obtain ⟨v, ho⟩ := hOut3.cell k hlt
            have hof := hOut3.frozen k
            go_wp2
            refine ⟨⟨k + 1, by omega, by simp, Below.setCell (hKt.trans hk3) (by simp only; omega) _, (hAirt.kp hk3).set _ _ (by simp only; omega), hOut3.step hlt _ HV.out⟩, by simp [intOf]; omega⟩
          · have g1' : ((f k).d == 1) = false := by simpa using g1
            have g2 : ((f k).d != 1) = true := by simpa using g1
            have hv : (-1 : Int) = outV f p r n k := by unfold outV; rw [g1']; rfl
            have hAir0 := hAir.kp kp0
            have hOut0 := hOut.kp hn0 kp0
            obtain ⟨v, ho⟩ := hOut0.cell k hlt
            have hof := hOut0.frozen k
            clear g1
            have HV := Lib.hid hv
            clear hv
            have e00 := e0 0
            have e01 := e0 1
            clear e0
            go_wp2
            refine ⟨⟨k + 1, by omega, by simp, Below.setCell (hKr.trans kp0) (by simp only; omega) _, hAir0.set _ _ (by simp only; omega), hOut0.step hlt _ HV.out⟩, by simp [intOf]; omega⟩
        · obtain rfl : n = k := by omega
          go_wp2
          go_ret2
          exact ⟨_, rfl, hKr, by omega, hOut⟩
end Go.Proofs.YtbgnkopnbgaabaaDoor
