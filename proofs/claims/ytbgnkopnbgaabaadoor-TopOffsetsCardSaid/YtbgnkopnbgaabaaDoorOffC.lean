/-
  The walk of what a listening radio catches.
-/
import Derived.Test.YtbgnkopnbgaabaaDoorOffH
import Derived.RangeFuncFrom
namespace Go.Proofs.YtbgnkopnbgaabaaDoor
open Go.RowKit Go.Shelf
attribute [local go_sem] Oper.semAt_some

def catchV (f : Nat → Ac) (p : Nat → Pc) (r : Int) (i n : Nat) : Int :=
  match heardL f p r i n with
  | [] => -1
  | [k] => if catchesB (f k).s (f i).l (f i).h then k else -1
  | _ => -2
def foundV : List Nat → Int
  | [] => -1
  | k :: _ => k

theorem cell_set {w : World} {p q : Addr} {v u : Value} (h : w.cell? q = some u) (hne : p.block ≠ q.block) : (w.setCell p v).cell? q = some u := by
  rw [World.cell?_setCell_other _ _ _ _ (fun e => hne (by rw [e])), h]
theorem Env.set {n b1 o1 c1 b2 o2 c2 : Nat} {f : Nat → Ac} {p : Nat → Pc} {r i : Int} {B1 B2 : Nat} {w : World} (h : Env n b1 o1 c1 b2 o2 c2 f p r i B1 B2 w) (a : Addr) (v : Value) (h1 : a.block ≠ b1) (h2 : a.block ≠ b2) (h3 : a.block ≠ B1) (h4 : a.block ≠ B2) :
    Env n b1 o1 c1 b2 o2 c2 f p r i B1 B2 (w.setCell a v) :=
  ⟨⟨fun k hk => cell_set (h.rowA.d k hk) h1, fun k hk => cell_set (h.rowA.c k hk) h1, fun k hk => cell_set (h.rowA.s k hk) h1, fun k hk => cell_set (h.rowA.l k hk) h1, fun k hk => cell_set (h.rowA.h k hk) h1⟩,
   ⟨fun k hk => cell_set (h.rowP.x k hk) h2, fun k hk => cell_set (h.rowP.y k hk) h2⟩, cell_set h.act h3, cell_set h.plc h3, cell_set h.rad h3, cell_set h.idx h4⟩
theorem cell_put {w : World} {q : Addr} {u : Value} {l : Nat} {o o' : Obj} (h : w.cell? q = some u) (hl : w.heap[l]? = some o) (hc : o.isCells = false) : (w.putObj l o').cell? q = some u :=
  cell_kept h (grownBy_putObj' w l o') (fun r e => by cases e; exact ⟨_, hl, hc⟩)
theorem Env.put {n b1 o1 c1 b2 o2 c2 : Nat} {f : Nat → Ac} {p : Nat → Pc} {r i : Int} {B1 B2 : Nat} {w : World} (h : Env n b1 o1 c1 b2 o2 c2 f p r i B1 B2 w) {l : Nat} {o : Obj} (o' : Obj) (hl : w.heap[l]? = some o) (hc : o.isCells = false) :
    Env n b1 o1 c1 b2 o2 c2 f p r i B1 B2 (w.putObj l o') :=
  ⟨⟨fun k hk => cell_put (h.rowA.d k hk) hl hc, fun k hk => cell_put (h.rowA.c k hk) hl hc, fun k hk => cell_put (h.rowA.s k hk) hl hc, fun k hk => cell_put (h.rowA.l k hk) hl hc, fun k hk => cell_put (h.rowA.h k hk) hl hc⟩,
   ⟨fun k hk => cell_put (h.rowP.x k hk) hl hc, fun k hk => cell_put (h.rowP.y k hk) hl hc⟩, cell_put h.act hl hc, cell_put h.plc hl hc, cell_put h.rad hl hc, cell_put h.idx hl hc⟩

/-- What the loop over the heard radios keeps of the caller's own cells. -/
structure Mine (S n b1 o1 c1 b2 o2 c2 : Nat) (r : Int) (v : Int) (W : World) : Prop where
  found : W.cell? ⟨S + 1 + 1, 0, none⟩ = some (.int .i64 v)
  foundF : W.frozen? ⟨S + 1 + 1, 0, none⟩ = false
  act : W.cell? ⟨S, 0, none⟩ = some (.slice (some ⟨b1, o1, none⟩) n c1)
  plc : W.cell? ⟨S, 1, none⟩ = some (.slice (some ⟨b2, o2, none⟩) n c2)
  rad : W.cell? ⟨S, 2, none⟩ = some (.int .i64 r)
structure Res (S : Nat) (W : World) : Prop where
  res : ∃ v, W.cell? ⟨S + 1, 0, none⟩ = some (.int .i64 v)
  resF : W.frozen? ⟨S + 1, 0, none⟩ = false

theorem wpIn_region_quiet {P : Program} {l : List Oper} {m : Nat} {id : Nat} {Q : Exit → Act → World → Prop} {a : Act} {w : World} (C : World → Prop) (hm : P.follows .mixedOrders = true) (hB : Region.lexB .any l.toArray = true) (hC : C { w with drawn := w.drawn + 1 })
    (h : wpQuiet P l.toArray C (fun a' => ∀ w', C w' → Q .normal a' w') l a) : (Code.region id l.toArray true).wpIn Fence.wide m P Q a w := wpIn_wide.2 (wp_region_quiet hm hB hC (by simpa using h))
theorem Kp.heap {a b : World} (h : Kp a b) {k : Nat} {o : Obj} (hk : a.heap[k]? = some o) : b.heap[k]? = some o :=
  (h.block k (Array.getElem?_eq_some_iff.1 hk).1).trans hk
theorem Kp.froz {a b : World} (h : Kp a b) {q : Addr} {u : Value} (hc : a.cell? q = some u) (hf : a.frozen? q = false) : b.frozen? q = false :=
  (Below.frozen h (World.block_lt_of_cell? a _ hc)).trans hf
theorem heap_set {w : World} {a : Addr} {v : Value} {k : Nat} {o : Obj} (hk : w.heap[k]? = some o) (hc : o.isCells = false) : (w.setCell a v).heap[k]? = some o := (KeepsOthers.setCell w a v).same k o hk hc
theorem heardL_prefix (f : Nat → Ac) (p : Nat → Pc) (r : Int) (i n : Nat) : ∀ d, (heardL f p r i n).length ≤ (heardL f p r i (n + d)).length := by
  intro d
  induction d with
  | zero => exact Nat.le_refl _
  | succ d ih => rw [show n + (d + 1) = n + d + 1 by omega, heardL_succ]; simp only [List.length_append]; omega
theorem heardL_mem {f : Nat → Ac} {p : Nat → Pc} {r : Int} {i n k : Nat} (h : k ∈ heardL f p r i n) : k < n ∧ hearsB f p r i k = true := by
  simpa [heardL] using h

set_option maxRecDepth 100000 in
set_option maxHeartbeats 1000000 in
theorem catch_ok (n b1 o1 c1 b2 o2 c2 i : Nat) (f : Nat → Ac) (p : Nat → Pc) (r : Int) (w : World) (hn : n ≤ 1000) (hi : i < n) (hp : GoodP n p) (hr0 : 0 ≤ r) (hr : r ≤ 20000) (hA : RowA w b1 o1 n f) (hP : RowP w b2 o2 n p) :
    Calls Tryd.prog 32 #[.agg #[.slice (some ⟨b1, o1, none⟩) n c1, .slice (some ⟨b2, o2, none⟩) n c2, .int .i64 r], .int .i64 i] w fun e w' => e = .returned (.int .i64 (catchV f p r i n)) ∧ Kp w w' := by
  refine (callsIn_wide (n := 3)).1 ?_
  refine callsIn_of_wp_marks Tryd.func32 rfl trivial ?_ rfl
  simp only [Tryd.ntmps32, List.size_toArray, List.length_cons, List.length_nil, Nat.reduceAdd, Nat.reduceSub, Array.replicate_succ, Array.replicate_zero, List.push_toArray, List.append_toArray, List.nil_append, List.cons_append]
  gi_wp2
  refine ⟨trivial, ?_⟩
  refine (callsIn_wide.2 (heard_any _ _ _ _ _)).mono ?_
  rintro e w' ⟨rfl, rfl⟩
  gi_wp2
  have hb1 : b1 < w.heap.size := World.block_lt_of_cell? w _ (hA.d i hi)
  have hb2 : b2 < w.heap.size := World.block_lt_of_cell? w _ (hP.x i hi)
  obtain ⟨W5, hW5⟩ : ∃ W5, (((((w.alloc (.cells #[.slice (some ⟨b1, o1, none⟩) n c1, .slice (some ⟨b2, o2, none⟩) n c2, .int .i64 r] 62)).alloc (.cells #[.int .i64 0] 3)).alloc (.cells #[.int .i64 (-1)] 3)).alloc
    (.cells #[.slice (some ⟨b1, o1, none⟩) n c1, .slice (some ⟨b2, o2, none⟩) n c2, .int .i64 r] 62)).alloc (.cells #[.int .i64 i] 3)) = W5 := ⟨_, rfl⟩
  have hsz : W5.heap.size = w.heap.size + 5 := by rw [← hW5]; simp
  have hK5 : Kp w W5 := by rw [← hW5]; repeat (first | exact Kp.refl _ | refine Kp.alloc ?_ _)
  have hM5 : Mine w.heap.size n b1 o1 c1 b2 o2 c2 r (-1) W5 := by
    rw [← hW5]
    constructor <;> simp [go_sem]
  have hR5 : Res w.heap.size W5 := by
    rw [← hW5]
    constructor <;> simp [go_sem]
  have hE5 : Env n b1 o1 c1 b2 o2 c2 f p r i (w.heap.size + 1 + 1 + 1) (w.heap.size + 1 + 1 + 1 + 1) W5 := by
    refine ⟨hA.kp hK5, hP.kp hK5, ?_, ?_, ?_, ?_⟩ <;> (rw [← hW5]; simp [go_sem])
  rw [hW5]
  clear hW5
  refine wpIn_rangeFunc_ownF rfl (by omega : 1 ≤ 3) (gf := 41) (lb := #[.pointer (some ⟨w.heap.size + 1 + 1 + 1, 0, none⟩), .pointer (some ⟨w.heap.size + 1 + 1 + 1 + 1, 0, none⟩)]) rfl trivial (enters_of Tryd.func41 (by kernel_rfl) rfl)
    (encs := fun x : Nat => #[.int .i64 (x : Nat)]) (Kp := fun A B => Env n b1 o1 c1 b2 o2 c2 f p r i (w.heap.size + 1 + 1 + 1) (w.heap.size + 1 + 1 + 1 + 1) A → Env n b1 o1 c1 b2 o2 c2 f p r i (w.heap.size + 1 + 1 + 1) (w.heap.size + 1 + 1 + 1 + 1) B) (S := fun ys => ys = heardL f p r i n) (Sp := fun pre => ∃ k, k ≤ n ∧ pre = heardL f p r i k) (N := n) (w0 := W5)
    (fun l J Jx W hW hJ _ hY h0 => heard1_in 2 l n b1 o1 c1 b2 o2 c2 i _ _ f p r hn hi hp hr0 hr J Jx W hJ hY (hE5.kp hW) h0)
    (fun h k a => k (h a)) (fun W l o o' _ hl hc _ hE => hE.put o' hl hc) (Below.refl _ _) (fun _ => rfl)
    (fun pre W => ((pre.length ≤ 1 ∧ Mine w.heap.size n b1 o1 c1 b2 o2 c2 r (foundV pre) W ∧ Res w.heap.size W) ∧ Kp w W))
    (fun c pre W => (c = .ret ∧ 2 ≤ pre.length ∧ W.cell? ⟨w.heap.size + 1, 0, none⟩ = some (.int .i64 (-2))) ∧ Kp w W)
    ?hI ?hIx ⟨⟨by simp, hM5, hR5⟩, hK5⟩
    (fun x => { tmps := #[.agg #[.slice (some ⟨b1, o1, none⟩) n c1, .slice (some ⟨b2, o2, none⟩) n c2, .int .i64 r], .int .i64 i, .pointer (some ⟨w.heap.size, 0, none⟩), undef, .pointer (some ⟨w.heap.size + 1, 0, none⟩), .pointer (some ⟨w.heap.size + 1 + 1, 0, none⟩), .int .i64 (x : Nat), .agg #[.slice (some ⟨b1, o1, none⟩) n c1, .slice (some ⟨b2, o2, none⟩) n c2, .int .i64 r], .int .i64 i, .func (.func 41) #[] #[.pointer (some ⟨w.heap.size + 1 + 1 + 1, 0, none⟩), .pointer (some ⟨w.heap.size + 1 + 1 + 1 + 1, 0, none⟩)], .int .i64 (x : Nat), undef, undef, undef, undef, undef, undef, undef, undef, undef, undef, undef, undef, undef, undef, undef, undef, undef, undef, undef, undef, undef, undef], defers := [] }) ?assign ?body ?done ?stop
  case hI =>
    refine OwnFrom.and (Own.from (fun s A B row hs hg hr => ⟨hs.1, ?_, ?_⟩) _) (ownFrom_below (Nat.le_refl _) (by omega))
    · obtain ⟨_, hm, _⟩ := hs
      exact ⟨cell_kept hm.found hg hr, (frozen_kept hm.found hg hr).trans hm.foundF, cell_kept hm.act hg hr, cell_kept hm.plc hg hr, cell_kept hm.rad hg hr⟩
    · obtain ⟨_, _, ⟨v, hv⟩, hf⟩ := hs
      exact ⟨⟨v, cell_kept hv hg hr⟩, (frozen_kept hv hg hr).trans hf⟩
  case hIx =>
    intro c
    exact OwnFrom.and (Own.from (fun s A B row hs hg hr => ⟨hs.1, hs.2.1, cell_kept hs.2.2 hg hr⟩) _) (ownFrom_below (Nat.le_refl _) (by omega))
  case assign =>
    intro l x W K hK
    gi_wp2
    exact hK
  case body =>
    rintro l pre x W ⟨⟨hlen, hm, ⟨v, hv⟩, hrf⟩, hB⟩ hlt
    have hc0 := hm.found
    have hf0 := hm.foundF
    match pre, hlen with
    | [], _ =>
      have hz : foundV [] = -1 := rfl
      rw [hz] at hc0
      gi_wp2
      exact ⟨KeepsOthers.setCell _ _ _, fun hE => hE.set ⟨w.heap.size + 1 + 1, 0, none⟩ _ (by simp only; omega) (by simp only; omega) (by simp only; omega) (by simp only; omega),
        ⟨⟨by simp, ⟨World.cell?_setCell_same' _ _ _ (by rw [hc0]; rfl), by rw [World.frozen?_setCell]; exact hf0, cell_set hm.act (by simp only; omega), cell_set hm.plc (by simp only; omega), cell_set hm.rad (by simp only; omega)⟩, ⟨v, cell_set hv (by simp only; omega)⟩, by rw [World.frozen?_setCell]; exact hrf⟩,
        Below.setCell hB (by simp only; omega) _⟩⟩
    | [k], _ =>
      have hz : foundV [k] = k := rfl
      rw [hz] at hc0
      have hne : ((k : Int) != -1) = true := by rw [bne_iff_ne]; omega
      gi_wp2
      exact ⟨KeepsOthers.setCell _ _ _, ⟨⟨rfl, by simp, World.cell?_setCell_same' _ _ _ (by rw [hv]; rfl)⟩, Below.setCell hB (by simp only; omega) _⟩⟩
  case stop =>
    rintro D c pre W hD ⟨k, hk, rfl⟩ ⟨⟨rfl, hlen, hcr⟩, hB⟩ hK
    gi_wp2
    refine ⟨by simp, .inl ⟨_, _, rfl, run_takeDeferred hK, ?_⟩⟩
    have hc5 := cell_put hcr (o' := .deferred none) hK rfl
    have hl := heardL_prefix f p r i k (n - k)
    rw [show k + (n - k) = n by omega] at hl
    have hv : catchV f p r i n = -2 := by
      unfold catchV
      match heardL f p r i n, Nat.le_trans hlen hl with
      | _ :: _ :: _, _ => rfl
    refine ⟨.int .i64 (-2), ?_, by rw [hv], Below.trans hB (belowK_b (w := w) (Nat.le_refl _) W D _ _ (by omega) hK rfl rfl)⟩
    simp [results, Tryd.f32, go_sem, hc5]
  case done =>
    rintro D ys W hD rfl ⟨⟨hlen, hm, ⟨v, hv⟩, hrf⟩, hB⟩ hK
    have hAW := hA.kp hB
    have hPW := hP.kp hB
    have t0 : ∀ t : WC W, t.w.cell? ⟨w.heap.size + 1 + 1, 0, none⟩ = some (.int .i64 (foundV (heardL f p r i n))) := fun t => t.kp.cell hm.found
    have t1 : ∀ t : WC W, t.w.cell? ⟨w.heap.size, 0, none⟩ = some (.slice (some ⟨b1, o1, none⟩) n c1) := fun t => t.kp.cell hm.act
    have t4 : ∀ t : WC W, t.w.cell? ⟨b1, o1 + i * 5 + 3, none⟩ = some (.int .i64 (f i).l) := fun t => t.kp.cell (hAW.l i hi)
    have t5 : ∀ t : WC W, t.w.cell? ⟨b1, o1 + i * 5 + 3 + 1, none⟩ = some (.int .i64 (f i).h) := fun t => t.kp.cell (hAW.h i hi)
    cases hh : heardL f p r i n with
    | nil =>
      have hv' : catchV f p r i n = -1 := by unfold catchV; rw [hh]
      rw [hh] at t0
      have hz : foundV [] = -1 := rfl
      rw [hz] at t0
      gi_wp2
      refine wpIn_region_quiet (fun w' => ∃ t : WC W, w' = t.w) (by kernel_rfl) (by kernel_rfl) ⟨⟨_, (Kp.refl W).drewN 1⟩, rfl⟩ ?_
      repeat (go_big_quiet_step (fail))
      refine wpQuiet_nil ?_
      rintro _ ⟨t, rfl⟩
      have hvt := t.kp.cell hv
      have hrt := t.kp.froz hv hrf
      have hKt := t.kp.heap hK
      have hBt := Kp.trans hB t.kp
      have t0t := t0 t
      clear t0 t1 t4 t5 
      gi_wp2
      have hK' := heap_set (a := ⟨w.heap.size + 1, 0, none⟩) (v := .int .i64 (-1)) hKt rfl
      refine ⟨by simp, .inl ⟨_, _, rfl, run_takeDeferred hK', ?_⟩⟩
      have hc5 := cell_put (World.cell?_setCell_same' t.w ⟨w.heap.size + 1, 0, none⟩ (.int .i64 (-1)) (by rw [hvt]; rfl)) (o' := .deferred none) hK' rfl
      refine ⟨.int .i64 (-1), ?_, by rw [hv'], Below.trans (Below.setCell hBt (by simp only; omega) _) (belowK_b (w := w) (Nat.le_refl _) _ D _ _ (by omega) hK' rfl rfl)⟩
      simp [results, Tryd.f32, go_sem, hc5]
    | cons k rest =>
      have hr1 : rest = [] := by
        rw [hh] at hlen
        cases rest with
        | nil => rfl
        | cons a b => simp at hlen
      subst hr1
      have hkm := heardL_mem (show k ∈ heardL f p r i n by rw [hh]; simp)
      rw [hh] at t0
      have hz : foundV [k] = k := rfl
      rw [hz] at t0
      have t2 : ∀ t : WC W, t.w.cell? ⟨b1, o1 + k * 5 + 2, none⟩ = some (.int .i64 (f k).s) := fun t => t.kp.cell (hAW.s k hkm.1)
      have hne : ((k : Int) != -1) = true := by rw [bne_iff_ne]; omega
      have hk0 := hkm.1
      have hv' : catchV f p r i n = if catchesB (f k).s (f i).l (f i).h then (k : Int) else -1 := by unfold catchV; rw [hh]
      cases hcb : catchesB (f k).s (f i).l (f i).h with
      | true =>
        rw [hcb, if_pos rfl] at hv'
        have hN : ∀ t : WC W, Calls Tryd.prog 37 #[.int .i64 (f k).s, .agg #[.int .i64 (f i).l, .int .i64 (f i).h]] t.w fun e w' => e = .returned (.bool true) ∧ Kp t.w w' := fun t => by have h := catches_any (f k).s (f i).l (f i).h t.w; rwa [hcb] at h
        have HN := Lib.hid hN
        have HV := Lib.hid hv'
        clear hN hv' hcb hh
        gi_wp2
        refine wpIn_region_quiet (fun w' => ∃ t : WC W, w' = t.w) (by kernel_rfl) (by kernel_rfl) ⟨⟨_, (Kp.refl W).drewN 1⟩, rfl⟩ ?_
        repeat (go_big_quiet_step (((go_at_call 37; exact calls_wc (HN.out _)))))
        refine wpQuiet_nil ?_
        rintro _ ⟨t, rfl⟩
        have hvt := t.kp.cell hv
        have hrt := t.kp.froz hv hrf
        have hKt := t.kp.heap hK
        have hBt := Kp.trans hB t.kp
        have t0t := t0 t
        clear t0 t1 t4 t5 t2
        gi_wp2
        have hK' := heap_set (a := ⟨w.heap.size + 1, 0, none⟩) (v := .int .i64 (k : Nat)) hKt rfl
        refine ⟨by simp, .inl ⟨_, _, rfl, run_takeDeferred hK', ?_⟩⟩
        have hc5 := cell_put (World.cell?_setCell_same' t.w ⟨w.heap.size + 1, 0, none⟩ (.int .i64 (k : Nat)) (by rw [hvt]; rfl)) (o' := .deferred none) hK' rfl
        refine ⟨.int .i64 (k : Nat), ?_, by rw [HV.out], Below.trans (Below.setCell hBt (by simp only; omega) _) (belowK_b (w := w) (Nat.le_refl _) _ D _ _ (by omega) hK' rfl rfl)⟩
        simp [results, Tryd.f32, go_sem, hc5]
      | false =>
        rw [hcb, if_neg (by simp)] at hv'
        have hN : ∀ t : WC W, Calls Tryd.prog 37 #[.int .i64 (f k).s, .agg #[.int .i64 (f i).l, .int .i64 (f i).h]] t.w fun e w' => e = .returned (.bool false) ∧ Kp t.w w' := fun t => by have h := catches_any (f k).s (f i).l (f i).h t.w; rwa [hcb] at h
        have HN := Lib.hid hN
        have HV := Lib.hid hv'
        clear hN hv' hcb hh
        gi_wp2
        refine wpIn_region_quiet (fun w' => ∃ t : WC W, w' = t.w) (by kernel_rfl) (by kernel_rfl) ⟨⟨_, (Kp.refl W).drewN 1⟩, rfl⟩ ?_
        repeat (go_big_quiet_step (((go_at_call 37; exact calls_wc (HN.out _)))))
        refine wpQuiet_nil ?_
        rintro _ ⟨t, rfl⟩
        have hvt := t.kp.cell hv
        have hrt := t.kp.froz hv hrf
        have hKt := t.kp.heap hK
        have hBt := Kp.trans hB t.kp
        have t0t := t0 t
        clear t0 t1 t4 t5 t2
        gi_wp2
        have hK' := heap_set (a := ⟨w.heap.size + 1, 0, none⟩) (v := .int .i64 (-1)) hKt rfl
        refine ⟨by simp, .inl ⟨_, _, rfl, run_takeDeferred hK', ?_⟩⟩
        have hc5 := cell_put (World.cell?_setCell_same' t.w ⟨w.heap.size + 1, 0, none⟩ (.int .i64 (-1)) (by rw [hvt]; rfl)) (o' := .deferred none) hK' rfl
        refine ⟨.int .i64 (-1), ?_, by rw [HV.out], Below.trans (Below.setCell hBt (by simp only; omega) _) (belowK_b (w := w) (Nat.le_refl _) _ D _ _ (by omega) hK' rfl rfl)⟩
        simp [results, Tryd.f32, go_sem, hc5]

end Go.Proofs.YtbgnkopnbgaabaaDoor
