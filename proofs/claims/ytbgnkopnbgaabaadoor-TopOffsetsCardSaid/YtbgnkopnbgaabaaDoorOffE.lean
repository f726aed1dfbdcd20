/-
  The walk of who catches whom in a slot: the rows of actions and places that are built, and Catch over them.
-/
import Derived.Test.YtbgnkopnbgaabaaDoorOffD
import Derived.Deep.RegionHeld3
import Derived.Deep.AppendLies
import Derived.Maps.AppendAt
namespace Go.Proofs.YtbgnkopnbgaabaaDoor
open Go.RowKit Go.Shelf

/-- What a row of elements of several cells holds, cell for cell. -/
def flat (g : Nat → List Value) : Nat → List Value
  | 0 => []
  | n + 1 => flat g n ++ g n
theorem flat_length {g : Nat → List Value} {sz : Nat} (hg : ∀ k, (g k).length = sz) : ∀ n, (flat g n).length = n * sz
  | 0 => by simp [flat]
  | n + 1 => by simp [flat, flat_length hg n, hg, Nat.succ_mul]
theorem flat_at {g : Nat → List Value} {sz : Nat} (hg : ∀ k, (g k).length = sz) : ∀ n k j, k < n → j < sz → (flat g n)[k * sz + j]? = (g k)[j]?
  | 0, _, _, h, _ => by omega
  | n + 1, k, j, h, hj => by
    have hl := flat_length hg n
    rw [flat]
    by_cases e : k = n
    · subst e
      rw [List.getElem?_append_right (by omega), hl]
      congr 1
      omega
    · have h2 := Nat.mul_le_mul_right sz (show k + 1 ≤ n by omega)
      rw [Nat.succ_mul] at h2
      rw [List.getElem?_append_left (by omega)]
      exact flat_at hg n k j (by omega) hj

/-- A radio of the law. -/
structure Rc where
  d : Int
  f : Int
  x : Int
  y : Int
  s : Int
  v : Int
structure RowR (w : World) (b o n : Nat) (g : Nat → Rc) : Prop where
  d : ∀ k, k < n → w.cell? ⟨b, o + k * 6, none⟩ = some (.int .i64 (g k).d)
  f : ∀ k, k < n → w.cell? ⟨b, o + k * 6 + 1, none⟩ = some (.int .u8 (g k).f)
  x : ∀ k, k < n → w.cell? ⟨b, o + k * 6 + 2, none⟩ = some (.int .i64 (g k).x)
  y : ∀ k, k < n → w.cell? ⟨b, o + k * 6 + 3, none⟩ = some (.int .i64 (g k).y)
  s : ∀ k, k < n → w.cell? ⟨b, o + k * 6 + 4, none⟩ = some (.int .i16 (g k).s)
  v : ∀ k, k < n → w.cell? ⟨b, o + k * 6 + 5, none⟩ = some (.int .u8 (g k).v)
theorem RowR.kp {w w' : World} {b o n : Nat} {g : Nat → Rc} (h : RowR w b o n g) (k : Kp w w') : RowR w' b o n g :=
  ⟨fun i hi => k.cell (h.d i hi), fun i hi => k.cell (h.f i hi), fun i hi => k.cell (h.x i hi), fun i hi => k.cell (h.y i hi), fun i hi => k.cell (h.s i hi), fun i hi => k.cell (h.v i hi)⟩
structure GoodR (n : Nat) (g : Nat → Rc) : Prop where
  d : ∀ k, k < n → 0 ≤ (g k).d ∧ (g k).d ≤ 2
  f : ∀ k, k < n → 0 ≤ (g k).f ∧ (g k).f ≤ 255
  p : ∀ k, k < n → 0 ≤ (g k).x ∧ (g k).x ≤ 10000 ∧ 0 ≤ (g k).y ∧ (g k).y ≤ 10000
  s : ∀ k, k < n → -32768 ≤ (g k).s ∧ (g k).s ≤ 32767
  v : ∀ k, k < n → 0 ≤ (g k).v ∧ (g k).v ≤ 255

def actOf (a : Int) (g : Nat → Rc) (k : Nat) : Ac := ⟨(g k).d, ch (a + (g k).f % 16), (g k).s, -(g k).v, (g k).v⟩
def plcOf (g : Nat → Rc) (k : Nat) : Pc := ⟨(g k).x, (g k).y⟩
def acells (f : Nat → Ac) (k : Nat) : List Value := [.int .i64 (f k).d, .int .i64 (f k).c, .int .i64 (f k).s, .int .i64 (f k).l, .int .i64 (f k).h]
def pcells (p : Nat → Pc) (k : Nat) : List Value := [.int .i64 (p k).x, .int .i64 (p k).y]

theorem own_apart {w : World} {base base' : Nat} {e e' : TypeId} {sz sz' : Nat} {v v' : Value} {n n' : Nat} {xs xs' : List Value} (h : w.ownsRow base e sz v n xs) (h' : w.ownsRow base' e' sz' v' n' xs') (hne : e ≠ e') : v.ownBlock = none ∨ v.ownBlock ≠ v'.ownBlock := by
  obtain ⟨_, ⟨rfl, _⟩ | ⟨b, cap, cur, rfl, _, hh, _⟩⟩ := h
  · exact .inl rfl
  · obtain ⟨_, ⟨rfl, _⟩ | ⟨b', cap', cur', rfl, _, hh', _⟩⟩ := h'
    · exact .inr (by simp [Value.ownBlock])
    · refine .inr (fun e2 => hne ?_)
      have hb : b = b' := by simpa [Value.ownBlock] using e2
      subst hb
      rw [hh] at hh'
      injection hh' with h1
      injection h1
theorem Kp.drew {a b : World} (h : Kp a b) : Kp a b.drew := Below.drew h
theorem Kp.own {a b c : World} {base : Nat} {e : TypeId} {sz : Nat} {v : Value} {n : Nat} {xs : List Value} (h : Kp a b) (hg : b.grownBy c v.ownBlock) (hown : b.ownsRow base e sz v n xs) (hb : a.heap.size ≤ base) : Kp a c :=
  Below.grown h hg h.size (fun k hk => Nat.le_trans hb (hown.lt k hk).1)

theorem row_of_own {w : World} {base e sz : Nat} {v : Value} {n : Nat} {xs : List Value} (h : w.ownsRow base e sz v n xs) (hn : 0 < n) : ∃ b c, v = .slice (some ⟨b, 0, none⟩) n c ∧ ∀ j u, xs[j]? = some u → w.cell? ⟨b, j, none⟩ = some u := by
  obtain ⟨h1, ⟨_, h0⟩ | ⟨b, cap, cur, rfl, h2, h3, h4, h5, h6, h7⟩⟩ := h
  · omega
  · refine ⟨b, cap, rfl, fun j u hj => ?_⟩
    have hc := World.ownsRow.cells (v := .slice (some ⟨b, 0, none⟩) n cap) ⟨h1, .inr ⟨b, cap, cur, rfl, h2, h3, h4, h5, h6, h7⟩⟩ rfl j u hj
    by_cases e : j = 0
    · subst e; simpa [Addr.add] using hc
    · simpa [Addr.add, e] using hc
theorem rowA_of {w : World} {b n : Nat} {f : Nat → Ac} (h : ∀ j u, (flat (acells f) n)[j]? = some u → w.cell? ⟨b, j, none⟩ = some u) : RowA w b 0 n f := by
  have key : ∀ k, k < n → ∀ j, j < 5 → (flat (acells f) n)[k * 5 + j]? = (acells f k)[j]? := fun k hk j hj => flat_at (sz := 5) (fun _ => rfl) n k j hk hj
  exact ⟨fun k hk => by rw [Nat.zero_add]; exact h _ _ (key k hk 0 (by omega)), fun k hk => by rw [Nat.zero_add]; exact h _ _ (key k hk 1 (by omega)), fun k hk => by rw [Nat.zero_add]; exact h _ _ (key k hk 2 (by omega)),
    fun k hk => by rw [Nat.zero_add]; exact h _ _ (key k hk 3 (by omega)), fun k hk => by rw [Nat.zero_add]; exact h _ _ (key k hk 4 (by omega))⟩
theorem rowP_of {w : World} {b n : Nat} {p : Nat → Pc} (h : ∀ j u, (flat (pcells p) n)[j]? = some u → w.cell? ⟨b, j, none⟩ = some u) : RowP w b 0 n p := by
  have key : ∀ k, k < n → ∀ j, j < 2 → (flat (pcells p) n)[k * 2 + j]? = (pcells p k)[j]? := fun k hk j hj => flat_at (sz := 2) (fun _ => rfl) n k j hk hj
  exact ⟨fun k hk => by rw [Nat.zero_add]; exact h _ _ (key k hk 0 (by omega)), fun k hk => by rw [Nat.zero_add]; exact h _ _ (key k hk 1 (by omega))⟩

theorem Trydinfo56 : (Tryd.prog.info? 56).map (fun i => (i.zero, i.size, i.bytes)) = some (some (.agg #[.int .i64 0, .int .i64 0, .int .i64 0, .int .i64 0, .int .i64 0]), 5, 40) := by kernel_rfl
theorem Trydinfo37 : (Tryd.prog.info? 37).map (fun i => (i.zero, i.size, i.bytes)) = some (some (.agg #[.int .i64 0, .int .i64 0]), 2, 16) := by kernel_rfl

set_option maxRecDepth 100000 in
set_option maxHeartbeats 1000000 in
theorem caught_ok (n b o c : Nat) (g : Nat → Rc) (r a : Int) (w : World) (hn0 : 0 < n) (hn : n ≤ 200) (hg : GoodR n g) (hr0 : 0 ≤ r) (hr : r ≤ 20000) (ha0 : 0 ≤ a) (ha : a ≤ 1000000000) (hL : LaidT w) (hR : RowR w b o n g) :
    Calls Tryd.prog 20 #[.slice (some ⟨b, o, none⟩) n c, .int .i64 r, .int .i64 a] w fun e w' =>
      ∃ B, e = .returned (.tuple #[.slice (some ⟨B, 0, none⟩) n n, .bool true]) ∧ Kp w w' ∧ w.heap.size ≤ B ∧ OutRow (actOf a g) (plcOf g) r n B n w' := by
  obtain ⟨i56, hi56, hz56, hs56, hb56⟩ := info_parts Trydinfo56
  obtain ⟨i37, hi37, hz37, hs37, hb37⟩ := info_parts Trydinfo37
  have hsb : slotB a = true := slotB_of ha0 ha
  go_enter Tryd.func20, Tryd.ntmps20
  go_wp2
  go_loopw [8, 9, 10] (fun va vp q wr => ∃ k : Nat, k ≤ n ∧ q = .int .i64 k ∧ Kp w wr ∧ wr.ownsRow w.heap.size 56 5 va k (flat (acells (actOf a g)) k) ∧ wr.ownsRow w.heap.size 37 2 vp k (flat (pcells (plcOf g)) k)) (fun _ _ q _ => n - (intOf q).toNat)
  case atStart => exact ⟨0, by omega, rfl, Kp.refl _, World.ownsRow_nil _ _ _ _, World.ownsRow_nil _ _ _ _⟩
  case round =>
    obtain ⟨k, hk, rfl, hK, hva, hvp⟩ := hrel
    by_cases hlt : k < n
    · have hRk := hR.kp hK
      have r0 := hRk.d k hlt
      have r1 := hRk.f k hlt
      have r2 := hRk.x k hlt
      have r3 := hRk.y k hlt
      have r4 := hRk.s k hlt
      have r5 := hRk.v k hlt
      have q1 := hg.f k hlt
      have q4 := hg.s k hlt
      have q5 := hg.v k hlt
      go_wp2_with (go_at_call 11; refine (channel_okT _ _ _ (hL.kp hK) hsb (chanB_of (by omega) (by omega))).mono ?_; rintro e w' ⟨rfl, rfl⟩)
      have hbk : b < w.heap.size := World.block_lt_of_cell? w _ (hR.d k hlt)
      have hsz := hK.size
      have ag : u8.ownBlock ≠ some b := fun e => by have := (hva.lt _ e).1; omega
      have ws := IntWalk.i64_in (g k).s (by omega)
      have wv := IntWalk.i64_in (-(g k).v) (by omega)
      go_region_held3 (fun w' => w'.cell? ⟨b, o + k * 6, none⟩ = some (.int .i64 (g k).d) ∧ w'.cell? ⟨b, o + k * 6 + 4, none⟩ = some (.int .i16 (g k).s))
        (first
          | go_keep
          | (go_split_ands
             refine ⟨?_, ?_⟩
             · (rw [hgrow.cell_far _ (by simp; omega) (Ne.symm ag)]; assumption)
             · (rw [hgrow.cell_far _ (by simp; omega) (Ne.symm ag)]; assumption)))
        ((refine step_append_lies _ (by rfl) _ _ _ (by rfl) w.heap.size 56 i56 _ 5 40 Tryd.underlying51 hi56 hz56 hs56 hb56 rfl (by omega) u8 k (flat (acells (actOf a g)) k) (by rfl) ((hva.alloc _).drew)
            ⟨wr.heap.size, 0, none⟩ 1 1 [.int .i64 (g k).d, .int .i64 (ch (a + (g k).f % 16)), .int .i64 (g k).s, .int .i64 (-(g k).v), .int .i64 (g k).v] (by rfl) (by rfl) (World.news_of_block (cs := #[.int .i64 (g k).d, .int .i64 (ch (a + (g k).f % 16)), .int .i64 (g k).s, .int .i64 (-(g k).v), .int .i64 (g k).v]) (t := 56) (fr := (0, 0)) (heap_alloc_new wr _)) (by simp [Value.oneCell'])
            (by omega) (by unfold maxLen; omega) (by omega) (by simp; omega) (wr.heap.size + 1) (by simp) ?_; intro gg cap w1 hown1 hgrow hat hlt2))
      have hown0 : ((wr.alloc (.cells #[.int .i64 (g k).d, .int .i64 (ch (a + (g k).f % 16)), .int .i64 (g k).s, .int .i64 (-(g k).v), .int .i64 (g k).v] 56)).drew).ownsRow w.heap.size 56 5 u8 k (flat (acells (actOf a g)) k) := (hva.alloc _).drew
      have hownp : ((wr.alloc (.cells #[.int .i64 (g k).d, .int .i64 (ch (a + (g k).f % 16)), .int .i64 (g k).s, .int .i64 (-(g k).v), .int .i64 (g k).v] 56)).drew).ownsRow w.heap.size 37 2 u9 k (flat (pcells (plcOf g)) k) := (hvp.alloc _).drew
      have hK1 : Kp w w1 := ((hK.alloc _).drew).own hgrow hown0 (Nat.le_refl _)
      have hvp1 := hownp.kept hgrow (own_apart hownp hown0 (by decide))
      have r2' := (hR.kp hK1).x k hlt
      have r3' := (hR.kp hK1).y k hlt
      have hs1 := hK1.size
      clear r0 r1 r2 r3 r4 r5 ws wv hown0 hownp hgrow
      go_wp2_with (at_builtin; refine wpList_append_own _ rfl _ _ 52 rfl w.heap.size 37 i37 (.agg #[.int .i64 0, .int .i64 0]) 2 16 Tryd.underlying52 hi37 hz37 hs37 hb37 rfl (by decide) _ _ _ rfl (hvp1.alloc _) ⟨w1.heap.size, 0, none⟩ 1 1 [.int .i64 (g k).x, .int .i64 (g k).y] rfl rfl (World.news_of_block (cs := #[.int .i64 (g k).x, .int .i64 (g k).y]) (t := 37) (fr := (0, 0)) (heap_alloc_new w1 _)) (by simp [Value.oneCell']) (by unfold maxLen; omega) (by omega) (by simp; omega) ?_; intro v' w2 hown2 hgrow2 _)
      have hvp2 : (w1.alloc (.cells #[.int .i64 (g k).x, .int .i64 (g k).y] 37)).ownsRow w.heap.size 37 2 u9 k (flat (pcells (plcOf g)) k) := hvp1.alloc _
      have hva2 : (w1.alloc (.cells #[.int .i64 (g k).x, .int .i64 (g k).y] 37)).ownsRow w.heap.size 56 5 (.slice (some ⟨gg, 0, none⟩) (k + 1) cap) (k + 1) (flat (acells (actOf a g)) (k + 1)) := hown1.alloc _
      have hK2 : Kp w w2 := (hK1.alloc _).own hgrow2 hvp2 (Nat.le_refl _)
      have hva3 := hva2.kept hgrow2 (own_apart hva2 hvp2 (by decide))
      clear r2' r3' hgrow2
      go_wp2
      go_roundw
      case rel => exact ⟨k + 1, by omega, by simp, hK2, hva3, hown2⟩
      case measure => simp [intOf]; omega
    · obtain rfl : n = k := by omega
      obtain ⟨ba, ca, rfl, ra⟩ := row_of_own hva hn0
      obtain ⟨bp, cp, rfl, rp⟩ := row_of_own hvp hn0
      have hRA : RowA wr ba 0 n (actOf a g) := rowA_of ra
      have hRP : RowP wr bp 0 n (plcOf g) := rowP_of rp
      clear ra rp hva hvp
      go_wp2_with fail
      refine (Catch_ok n ba 0 ca bp 0 cp (actOf a g) (plcOf g) r a _ hn0 hn ⟨fun k hk => hg.p k hk⟩ ⟨fun k hk => hg.d k hk, fun k hk => ch_range _⟩ hr0 hr ha0 ha hRA hRP).mono ?_
      rintro e w' ⟨B, rfl, hk2, hB, hO⟩
      have b3 : ((n : Int) == n) = true := by simp
      go_wp2
      go_ret2
      exact ⟨B, rfl, hK.trans hk2, Nat.le_trans hK.size hB, hO⟩
end Go.Proofs.YtbgnkopnbgaabaaDoor
