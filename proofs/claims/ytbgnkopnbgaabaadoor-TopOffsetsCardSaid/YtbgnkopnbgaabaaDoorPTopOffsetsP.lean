/-
  For any radios in cells of one data slot, whoever listens catches the same as if all radios with other channel offsets were silent, and the same 16 slots later; and radios with two offsets never hear each other. The listed package variable is tied to the program's text by the given tie; nothing else is asked of the input.
-/
import Derived.Test.YtbgnkopnbgaabaaDoorHopB
import Derived.Test.YtbgnkopnbgaabaaDoorOffZ
import Derived.Test.YtbgnkopnbgaabaaDoorCards
import Derived.Test.YtbgnkopnbgaabaaDoorTie
import Derived.SevenTiedAt
import Derived.Deep.Slices
namespace Go.Proofs.YtbgnkopnbgaabaaDoor
open Go.ChangeShapes Go.WideShapes Go.ChangeAt Go.WideMaps Go.WideElems Go.RowKit Go.Deep

section
variable {H : Type} {enc : TypeId × Value → H} {w : World} {base : Nat} {spare : Nat → Bool} {held : Bool}

instance : Inhabited Rc := ⟨⟨0, 0, 0, 0, 0, 0⟩⟩

theorem elem37 {n : Nat} {cs : List Value} {x : DataW H × List MemPlace} (h : DataW.trod enc Tryd.prog w base spare held n 37 cs = some x) : ∃ a b : Int, cs = [.int .i64 a, .int .i64 b] := by
  obtain ⟨y0, y1, m, _, hl, h0, h1⟩ := trod_struct2 Tryd.underlying37 h
  rw [show Tryd.prog.cellsOf 37 = 2 by kernel_rfl] at hl
  simp only [show Tryd.prog.cellsOf 3 = 1 by kernel_rfl] at h0 h1
  match cs, hl with
  | [c0, c1], _ =>
    obtain ⟨a, ha, _, _⟩ := DataW.trod_int Tryd.underlying3 h0
    obtain ⟨b, hb, _, _⟩ := DataW.trod_int Tryd.underlying3 h1
    simp only [List.drop_zero, List.take_succ_cons, List.take_zero, List.cons.injEq, and_true] at ha
    simp only [List.drop_succ_cons, List.drop_zero, List.take_succ_cons, List.take_zero, List.cons.injEq, and_true] at hb
    exact ⟨a, b, by rw [ha, hb]⟩

theorem elem40 {n : Nat} {cs : List Value} {x : DataW H × List MemPlace} (h : DataW.trod enc Tryd.prog w base spare held n 40 cs = some x) :
    ∃ g : Rc, cs = [.int .i64 g.d, .int .u8 g.f, .int .i64 g.x, .int .i64 g.y, .int .i16 g.s, .int .u8 g.v] ∧ (0 ≤ g.f ∧ g.f ≤ 255) ∧ (-32768 ≤ g.s ∧ g.s ≤ 32767) ∧ (0 ≤ g.v ∧ g.v ≤ 255) := by
  obtain ⟨xs, m, _, _, hl, hxl, hf⟩ := DataW.trod_struct Tryd.underlying40 h
  rw [show Tryd.prog.cellsOf 40 = 6 by kernel_rfl] at hl
  have f0 : DataW.trod enc Tryd.prog w base spare held m 3 ((cs.drop 0).take (Tryd.prog.cellsOf 3)) = xs[0]? := hf 0 _ rfl
  have f1 : DataW.trod enc Tryd.prog w base spare held m 5 ((cs.drop 1).take (Tryd.prog.cellsOf 5)) = xs[1]? := hf 1 _ rfl
  have f2 : DataW.trod enc Tryd.prog w base spare held m 37 ((cs.drop 2).take (Tryd.prog.cellsOf 37)) = xs[2]? := hf 2 _ rfl
  have f3 : DataW.trod enc Tryd.prog w base spare held m 38 ((cs.drop 4).take (Tryd.prog.cellsOf 38)) = xs[3]? := hf 3 _ rfl
  have f4 : DataW.trod enc Tryd.prog w base spare held m 5 ((cs.drop 5).take (Tryd.prog.cellsOf 5)) = xs[4]? := hf 4 _ rfl
  clear hf
  simp only [show Tryd.prog.cellsOf 3 = 1 by kernel_rfl, show Tryd.prog.cellsOf 5 = 1 by kernel_rfl, show Tryd.prog.cellsOf 37 = 2 by kernel_rfl, show Tryd.prog.cellsOf 38 = 1 by kernel_rfl] at f0 f1 f2 f3 f4
  match cs, hl, xs, hxl with
  | [c0, c1, c2, c3, c4, c5], _, [x0, x1, x2, x3, x4], _ =>
    simp only [List.drop_succ_cons, List.drop_zero, List.take_succ_cons, List.take_zero, List.getElem?_cons_zero, List.getElem?_cons_succ] at f0 f1 f2 f3 f4
    obtain ⟨d, hd, _, _⟩ := DataW.trod_int Tryd.underlying3 f0
    obtain ⟨f, hff, _, wf⟩ := DataW.trod_int Tryd.underlying5 f1
    obtain ⟨a, b, hab⟩ := elem37 f2
    obtain ⟨s, hs, _, ws⟩ := DataW.trod_int Tryd.underlying38 f3
    obtain ⟨v, hv, _, wv⟩ := DataW.trod_int Tryd.underlying5 f4
    simp only [List.cons.injEq, and_true] at hd hff hab hs hv
    exact ⟨⟨d, f, a, b, s, v⟩, by rw [hd, hff, hab.1, hab.2, hs, hv], bounds_u8 wf, bounds_i16 ws, bounds_u8 wv⟩
end

theorem add_at (b o k : Nat) : (⟨b, o, none⟩ : Addr).add k = ⟨b, o + k, none⟩ := by
  by_cases e : k = 0
  · subst e; simp [Addr.add]
  · simp [Addr.add, e]

theorem of_laid1 {W : World} (h : laidMetH Tryd.prog [("slotmesh/hop.table", Rows.laid_slotmesh_hop_table)] W) : LaidT W := by
  rw [MakeChecks.laidMetH_plain _ _ _ (by kernel_rfl)] at h
  obtain ⟨ps, ⟨g0, t0, cs0, f0, p0, q0, hg0, ht0, hv0, hd0, _, _⟩, _, _⟩ := h
  obtain rfl := Option.some.inj (gTable.symm.trans hg0)
  obtain rfl := Option.some.inj (tTable.symm.trans ht0)
  have c0 := Lib.cells_of_tab (zs := tblL) Tryd.underlying48 Tryd.underlying3 (by kernel_rfl) (by kernel_rfl) (show DataW.trod _ Tryd.prog W 0 _ false f0 48 _ = some (Lib.tabData .i64 tblL, p0) from hd0)
  exact ⟨fun k hk => cell_of_row hg0 hv0 c0 k hk⟩

theorem topOffsets_door (os : Os) (args : Array Value) : laidMetH Tryd.prog [("slotmesh/hop.table", Rows.laid_slotmesh_hop_table)] ((World.doorLaid Tryd.prog 400 os).forCall (fun _ _ => 0) ⟨#[], args, []⟩).memory :=
  laidMetH_of_parts3 (fuel := 8) (laidMet_of_run' 8 (by kernel_rfl) (by kernel_rfl)) (by kernel_rfl) (by kernel_rfl)

/-- The whole walk, by the slice that came in. -/
theorem topOffsets_any (A : Option Addr) (n c : Nat) (g : Nat → Rc) (r m : Int) (W : World) (hL : LaidT W) (hm0 : 0 ≤ m) (hm : m ≤ 4294967295) (hn : n ≤ maxLen)
    (hA : n = 0 ∨ ∃ b o, A = some ⟨b, o, none⟩ ∧ Typed n g ∧ RowR W b o n g) :
    Calls Tryd.prog 8 #[.slice A n c, .int .i64 r, .int .u32 m] W fun e W' => e = .returned (.bool true) ∧ Kp W W' := by
  by_cases h : 40 < n ∨ r < 0 ∨ 20000 < r
  · exact top_wide _ n c A r m W hL hm0 hm rfl h hn
  · rcases hA with rfl | ⟨b, o, rfl, hT, hR⟩
    · exact top_zero A c r m W (by omega) (by omega) hm0 hm hL
    · by_cases h0 : n = 0
      · subst h0
        exact top_zero _ c r m W (by omega) (by omega) hm0 hm hL
      · exact top_ok n b o c g r m W (by omega) (by omega) (by omega) (by omega) hm0 hm hL hT hR

set_option maxRecDepth 100000 in
theorem topOffsets_lifted (os : Os) (started : os.Started) (H : Type) (enc : TypeId × Value → H) :
    ReturnsInHanded {} Tryd.checked os 8 .any (fun w args => (Rows.topOffsetsSpec.pre enc Tryd.prog Tryd.f8 [] false w args ∧ laidMetH Tryd.prog [("slotmesh/hop.table", Rows.laid_slotmesh_hop_table)] w) ∧ sizedMet enc Tryd.prog Tryd.f8 (OpenSpec.ofChange Rows.topOffsetsSpec) false w args)
      (Rows.topOffsetsSpec.post enc Tryd.prog Tryd.f8 false true false false) := by
  refine returnsInHanded_of_change_and (C := Tryd.checked) (X := fun w _ => laidMetH Tryd.prog [("slotmesh/hop.table", Rows.laid_slotmesh_hop_table)] w) (fun _ _ _ hh h => h.of_heap hh) Tryd.own started (by kernel_rfl) Tryd.func8
    (ChangeSpec.witness_shaped (enc := enc) (C := Tryd.checked) (os := os) (X := fun w _ => laidMetH Tryd.prog [("slotmesh/hop.table", Rows.laid_slotmesh_hop_table)] w) false (World.doorLaid Tryd.prog 400 os) #[.slice none 0 0, .int .i64 0, .int .u32 0] 8 rfl (World.shaped_of_RefB (by kernel_rfl) (by kernel_rfl)) (by kernel_rfl) (by kernel_rfl) (by kernel_rfl) (topOffsets_door os _)) ?_
  intro W base args ds gs before hval0 hW _ _ hL _
  have hval : ∀ (j : Nat) t v, Tryd.f8.params[j]? = some t → args[j]? = some v → Value.okWide Tryd.prog W .any base t v := hval0
  have hW' := hW
  obtain ⟨p, q, hA0, hV, rfl, hfz, hnd⟩ := hW
  have hA : DataW.TrodAll enc Tryd.prog W 0 (fun _ => true) true Tryd.f8.params.toList args.toList ds p := hA0
  rw [Tryd.params8] at hA hval
  obtain ⟨v0, v1, v2, d0, d1, d2, p0, p1, p2, rfl, rfl, rfl, h0, h1, h2⟩ := trodAll_three hA
  obtain ⟨rfl, rfl⟩ := trodVars_none hV
  obtain ⟨r, rfl, rfl, rfl, wr⟩ := open_int Tryd.underlying3 (hval 1 3 v1 rfl rfl) h1
  obtain ⟨m, rfl, rfl, rfl, wm⟩ := open_int Tryd.underlying28 (hval 2 28 v2 rfl rfl) h2
  have bm := bounds_u32 wm
  obtain ⟨A, n, c, rfl⟩ := okWide_slice Tryd.underlying34 (hval 0 34 v0 rfl rfl)
  clear hA0 hval0
  simp only [List.append_nil] at hW'
  have hlt : ∀ x ∈ p0, x.block < W.heap.size := fun x hx => by simpa using hW'.lt x hx
  have h0k := h0
  obtain ⟨fuel, hf⟩ := h0
  have key : n ≤ maxLen ∧ (n = 0 ∨ ∃ b o, A = some ⟨b, o, none⟩ ∧ ∃ g : Nat → Rc, Typed n g ∧ RowR W b o n g) := by
    rcases open_slice Tryd.underlying34 hf with ⟨hcs, _⟩ | ⟨a, len, cap, mm, k, D, Pl, hcs, _, hl, hm, hmm, _, hx⟩
    · simp [Value.cells] at hcs
      exact ⟨by rw [hcs.2.1]; unfold maxLen; omega, .inl hcs.2.1⟩
    · simp [Value.cells] at hcs
      obtain ⟨rfl, rfl, rfl⟩ := hcs
      refine ⟨by omega, ?_⟩
      by_cases hn : n = 0
      · exact .inl hn
      · right
        have hle : n ≤ mm := by rw [hmm]; split <;> omega
        obtain ⟨g, hg⟩ := choose_lt (α := Rc) (n := n) (p := fun i g => (0 ≤ g.f ∧ g.f ≤ 255) ∧ (-32768 ≤ g.s ∧ g.s ≤ 32767) ∧ (0 ≤ g.v ∧ g.v ≤ 255) ∧
            ∀ j u, [Value.int .i64 g.d, .int .u8 g.f, .int .i64 g.x, .int .i64 g.y, .int .i16 g.s, .int .u8 g.v][j]? = some u → W.cell? ((a.add (i * 6)).add j) = some u) (fun i hi => by
          obtain ⟨cs', hc, ht⟩ := hx i (by omega)
          rw [show Tryd.prog.cellsOf 40 = 6 by kernel_rfl] at hc
          obtain ⟨_, hcl, hat⟩ := World.cells?_some hc
          obtain ⟨g, hg, b1, b2, b3⟩ := elem40 ht
          refine ⟨g, b1, b2, b3, fun j u hj => ?_⟩
          have hj6 : j < 6 := by
            have := (List.getElem?_eq_some_iff.1 hj).1
            simpa using this
          rw [hat j hj6, hg, hj])
        obtain ⟨b, o, sp⟩ := a
        have hsp : sp = none := by
          have h00 := (hg 0 (by omega)).2.2.2 0 _ rfl
          cases sp with
          | none => rfl
          | some x =>
            simp [World.cell?, Addr.add] at h00
            split at h00 <;> simp at h00
        subst hsp
        have hcell : ∀ i, i < n → ∀ j u, [Value.int .i64 (g i).d, .int .u8 (g i).f, .int .i64 (g i).x, .int .i64 (g i).y, .int .i16 (g i).s, .int .u8 (g i).v][j]? = some u → W.cell? ⟨b, o + i * 6 + j, none⟩ = some u := fun i hi j u hj => by
          have h := (hg i hi).2.2.2 j u hj
          rw [add_at, add_at] at h
          exact h
        exact ⟨b, o, rfl, g, ⟨fun i hi => (hg i hi).1, fun i hi => (hg i hi).2.1, fun i hi => (hg i hi).2.2.1⟩,
          ⟨fun i hi => hcell i hi 0 _ rfl, fun i hi => hcell i hi 1 _ rfl, fun i hi => hcell i hi 2 _ rfl, fun i hi => hcell i hi 3 _ rfl, fun i hi => hcell i hi 4 _ rfl, fun i hi => hcell i hi 5 _ rfl⟩⟩
  have key2 : ∃ g : Nat → Rc, n = 0 ∨ ∃ b o, A = some ⟨b, o, none⟩ ∧ Typed n g ∧ RowR W b o n g := by
    rcases key.2 with h | ⟨b, o, h, g, hT, hR⟩
    · exact ⟨fun _ => default, .inl h⟩
    · exact ⟨g, .inr ⟨b, o, h, hT, hR⟩⟩
  obtain ⟨g, hg⟩ := key2
  refine (topOffsets_any A n c g r m W (of_laid1 hL) bm.1 bm.2 key.1 hg).mono fun e W' ⟨he, hw⟩ => ?_
  subst he
  exact ⟨_, rfl, _, _, _, [], p0 ++ ([] ++ []), [], hW', trodAll_mk1 (shut_bool Tryd.underlying4 true), trodAll_mk3 (Below.trod Tryd.laidOut (by kernel_rfl) (of_decide_eq_true (by kernel_rfl)) h0k hw hlt) (shut_int Tryd.underlying3 wr) (shut_int Tryd.underlying28 wm), rfl, Below.frame hw _, fun h => by cases h⟩

theorem topOffsets_said : Rows.TopOffsetsSaid :=
  OpenClaim.holds_of_wide 8 Tryd.f8 rfl rfl rfl rfl rfl rfl rfl ⟨rfl, rfl, rfl, rfl, rfl⟩ rfl rfl rfl rfl rfl (by kernel_rfl) Tryd.func8 (by kernel_rfl)
    (of_decide_eq_true (by kernel_rfl)) (by unfold Func.isWrapper; rw [if_neg (of_decide_eq_false (by kernel_rfl))]; exact ⟨rfl, rfl⟩)
    (fun os started H enc _ => topOffsets_lifted os started H enc)

theorem topOffsets_holds : Rows.TopOffsetsCardSaid :=
  Claim7.holds_tied_plain_at .later [] [.data] true (true, "a314980c81b9b9b7d5cf75b04e25b76477ed6a8584cadb7a2bebd09a454447e2") false
    topOffsets_said (fun _ h => by cases h) (by kernel_rfl) (fun _ h => by cases h) topOffsets_row_tie rfl ⟨rfl, rfl⟩ (by kernel_rfl) rfl
    (fun f fn hf hfn => by
      obtain rfl : f = 8 := Option.some.inj ((show Tryd.prog.funcNamed "slotmesh/slotmeshtop.TopOffsets" = some 8 by kernel_rfl).symm.trans hf) |>.symm
      obtain rfl : fn = Tryd.f8 := (Option.some.inj (Tryd.func8.symm.trans hfn)).symm
      exact ⟨by kernel_rfl, fun j t ht => by
        rw [Tryd.params8] at ht
        have hm : t ∈ [34, 3, 28] := by simpa using Array.mem_of_getElem? ht
        have hall : ([34, 3, 28].all fun u => !Tryd.prog.wantsStandIn u) = true := by kernel_rfl
        exact (show Tryd.prog.wantsStandIn t = false by simpa using List.all_eq_true.1 hall t hm)⟩)
    (by kernel_rfl)
#print axioms topOffsets_holds
end Go.Proofs.YtbgnkopnbgaabaaDoor
