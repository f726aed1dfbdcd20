/-
  The walk of TopOffsets.
-/
import Derived.Test.YtbgnkopnbgaabaaDoorOffG
namespace Go.Proofs.YtbgnkopnbgaabaaDoor
open Go.RowKit Go.Shelf

/-- What the types of the fields say. -/
structure Typed (n : Nat) (g : Nat → Rc) : Prop where
  f : ∀ k, k < n → 0 ≤ (g k).f ∧ (g k).f ≤ 255
  s : ∀ k, k < n → -32768 ≤ (g k).s ∧ (g k).s ≤ 32767
  v : ∀ k, k < n → 0 ≤ (g k).v ∧ (g k).v ≤ 255

def rcells (g : Nat → Rc) (k : Nat) : List Value := [.int .i64 (g k).d, .int .u8 (g k).f, .int .i64 (g k).x, .int .i64 (g k).y, .int .i16 (g k).s, .int .u8 (g k).v]
theorem rowR_news {w : World} {b o n : Nat} {g : Nat → Rc} (h : RowR w b o n g) (j : Nat) (u : Value) (hj : (flat (rcells g) n)[j]? = some u) : w.cell? ((⟨b, o, none⟩ : Addr).add j) = some u := by
  have hlt : j < n * 6 := by
    have h1 : (flat (rcells g) n).length = n * 6 := flat_length (sz := 6) (fun _ => rfl) n
    rw [← h1]
    exact (List.getElem?_eq_some_iff.1 hj).1
  have hk : j / 6 < n := by omega
  have key := flat_at (g := rcells g) (sz := 6) (fun _ => rfl) n (j / 6) (j % 6) hk (by omega)
  rw [show j / 6 * 6 + j % 6 = j by omega, hj] at key
  have ha : (⟨b, o, none⟩ : Addr).add j = ⟨b, o + (j / 6 * 6 + j % 6), none⟩ := by
    rw [show j / 6 * 6 + j % 6 = j by omega]
    by_cases e : j = 0
    · subst e; simp [Addr.add]
    · simp [Addr.add, e]
  rw [ha]
  have h6 : j % 6 = 0 ∨ j % 6 = 1 ∨ j % 6 = 2 ∨ j % 6 = 3 ∨ j % 6 = 4 ∨ j % 6 = 5 := by omega
  rcases h6 with e | e | e | e | e | e <;> rw [e] at key ⊢ <;> (obtain rfl := Option.some.inj key)
  · exact h.d _ hk
  · exact h.f _ hk
  · exact h.x _ hk
  · exact h.y _ hk
  · exact h.s _ hk
  · exact h.v _ hk
theorem rowR_of {w : World} {b n : Nat} {g : Nat → Rc} (h : ∀ j u, (flat (rcells g) n)[j]? = some u → w.cell? ⟨b, j, none⟩ = some u) : RowR w b 0 n g := by
  have key : ∀ k, k < n → ∀ j, j < 6 → (flat (rcells g) n)[k * 6 + j]? = (rcells g k)[j]? := fun k hk j hj => flat_at (sz := 6) (fun _ => rfl) n k j hk hj
  exact ⟨fun k hk => by rw [Nat.zero_add]; exact h _ _ (key k hk 0 (by omega)), fun k hk => by rw [Nat.zero_add]; exact h _ _ (key k hk 1 (by omega)), fun k hk => by rw [Nat.zero_add]; exact h _ _ (key k hk 2 (by omega)),
    fun k hk => by rw [Nat.zero_add]; exact h _ _ (key k hk 3 (by omega)), fun k hk => by rw [Nat.zero_add]; exact h _ _ (key k hk 4 (by omega)), fun k hk => by rw [Nat.zero_add]; exact h _ _ (key k hk 5 (by omega))⟩

/-- The radios, of the first `m` all but those of offset `o` silent. -/
def fewTo (g : Nat → Rc) (o : Int) (m k : Nat) : Rc := if k < m then few g o k else g k
theorem fewTo_f (g : Nat → Rc) (o : Int) (m k : Nat) : (fewTo g o m k).f = (g k).f := by
  unfold fewTo few
  split
  · split <;> rfl
  · rfl
theorem fewTo_all (g : Nat → Rc) (o : Int) (n k : Nat) (hk : k < n) : fewTo g o n k = few g o k := by unfold fewTo; rw [if_pos hk]
theorem fewTo_step_on (g : Nat → Rc) (o : Int) (m : Nat) (h : (g m).f % 16 = o) : fewTo g o (m + 1) = fewTo g o m := by
  funext k
  unfold fewTo
  by_cases e : k = m
  · subst e; rw [if_pos (by omega), if_neg (by omega), few_on g o k h]
  · by_cases e2 : k < m
    · rw [if_pos (by omega), if_pos e2]
    · rw [if_neg (by omega), if_neg e2]
theorem fewTo_step_off (g : Nat → Rc) (o : Int) (m : Nat) (h : (g m).f % 16 ≠ o) (k : Nat) : fewTo g o (m + 1) k = if k = m then { fewTo g o m k with d := 0 } else fewTo g o m k := by
  unfold fewTo
  by_cases e : k = m
  · subst e
    rw [if_pos (by omega), if_pos rfl, if_neg (by omega)]
    unfold few
    rw [if_neg h]
  · rw [if_neg e]
    by_cases e2 : k < m
    · rw [if_pos (by omega), if_pos e2]
    · rw [if_neg (by omega), if_neg e2]

theorem RowR.silence {w : World} {b n m : Nat} {g : Nat → Rc} {o : Int} (h : RowR w b 0 n (fewTo g o m)) (hm : m < n) (ho : (g m).f % 16 ≠ o) : RowR (w.setCell ⟨b, 0 + m * 6, none⟩ (.int .i64 0)) b 0 n (fewTo g o (m + 1)) := by
  have st := fewTo_step_off g o m ho
  refine ⟨fun k hk => ?_, fun k hk => ?_, fun k hk => ?_, fun k hk => ?_, fun k hk => ?_, fun k hk => ?_⟩
  · rw [st k]
    by_cases e : k = m
    · subst e; rw [if_pos rfl]; exact cell_setSame (h.d k hk)
    · rw [if_neg e]; exact cell_setOff (h.d k hk) (by omega)
  · rw [show (fewTo g o (m + 1) k).f = (fewTo g o m k).f by rw [st k]; split <;> rfl]; exact cell_setOff (h.f k hk) (by omega)
  · rw [show (fewTo g o (m + 1) k).x = (fewTo g o m k).x by rw [st k]; split <;> rfl]; exact cell_setOff (h.x k hk) (by omega)
  · rw [show (fewTo g o (m + 1) k).y = (fewTo g o m k).y by rw [st k]; split <;> rfl]; exact cell_setOff (h.y k hk) (by omega)
  · rw [show (fewTo g o (m + 1) k).s = (fewTo g o m k).s by rw [st k]; split <;> rfl]; exact cell_setOff (h.s k hk) (by omega)
  · rw [show (fewTo g o (m + 1) k).v = (fewTo g o m k).v by rw [st k]; split <;> rfl]; exact cell_setOff (h.v k hk) (by omega)

theorem good_few {n : Nat} {g : Nat → Rc} (h : GoodR n g) (o : Int) : GoodR n (few g o) := by
  have e : ∀ k, (few g o k).f = (g k).f ∧ (few g o k).x = (g k).x ∧ (few g o k).y = (g k).y ∧ (few g o k).s = (g k).s ∧ (few g o k).v = (g k).v ∧ ((few g o k).d = (g k).d ∨ (few g o k).d = 0) := fun k => by
    unfold few
    split
    · exact ⟨rfl, rfl, rfl, rfl, rfl, .inl rfl⟩
    · exact ⟨rfl, rfl, rfl, rfl, rfl, .inr rfl⟩
  refine ⟨fun k hk => ?_, fun k hk => ?_, fun k hk => ?_, fun k hk => ?_, fun k hk => ?_⟩
  · have := h.d k hk
    rcases (e k).2.2.2.2.2 with h1 | h1 <;> rw [h1] <;> omega
  · rw [(e k).1]; exact h.f k hk
  · rw [(e k).2.1, (e k).2.2.1]; exact h.p k hk
  · rw [(e k).2.2.2.1]; exact h.s k hk
  · rw [(e k).2.2.2.2.1]; exact h.v k hk
theorem RowR.congr {w : World} {b o n : Nat} {g g' : Nat → Rc} (h : RowR w b o n g) (e : ∀ k, k < n → g k = g' k) : RowR w b o n g' :=
  ⟨fun k hk => by rw [← e k hk]; exact h.d k hk, fun k hk => by rw [← e k hk]; exact h.f k hk, fun k hk => by rw [← e k hk]; exact h.x k hk, fun k hk => by rw [← e k hk]; exact h.y k hk, fun k hk => by rw [← e k hk]; exact h.s k hk, fun k hk => by rw [← e k hk]; exact h.v k hk⟩

theorem row_of_own2 {w : World} {base e sz : Nat} {v : Value} {n : Nat} {xs : List Value} (h : w.ownsRow base e sz v n xs) (hn : 0 < n) : ∃ b c, v = .slice (some ⟨b, 0, none⟩) n c ∧ base ≤ b ∧ (∀ j, w.frozen? ⟨b, j, none⟩ = false) ∧ ∀ j u, xs[j]? = some u → w.cell? ⟨b, j, none⟩ = some u := by
  obtain ⟨b, c, rfl, hc⟩ := row_of_own h hn
  exact ⟨b, c, rfl, (h.lt b rfl).1, fun j => h.frozenAt j, hc⟩
theorem one_news (g : Nat → Rc) : ∀ n, ∀ u ∈ flat (rcells g) n, u.oneCell' = true
  | 0 => fun u hu => by cases hu
  | n + 1 => fun u hu => by
    rw [flat, List.mem_append] at hu
    rcases hu with hu | hu
    · exact one_news g n u hu
    · simp only [rcells, List.mem_cons, List.not_mem_nil, or_false] at hu
      rcases hu with rfl | rfl | rfl | rfl | rfl | rfl <;> rfl

theorem Trydinfo40 : (Tryd.prog.info? 40).map (fun i => (i.zero, i.size, i.bytes)) = some (some (.agg #[.int .i64 0, .int .u8 0, .int .i64 0, .int .i64 0, .int .i16 0, .int .u8 0]), 6, 40) := by kernel_rfl

set_option maxRecDepth 100000 in
/-- Too many radios, or no valid radius: the head alone decides. -/
theorem top_wide (v : Value) (n c : Nat) (A : Option Addr) (r m : Int) (w : World) (hL : LaidT w) (hm0 : 0 ≤ m) (hm : m ≤ 4294967295) (hv : v = .slice A n c) (h : 40 < n ∨ r < 0 ∨ 20000 < r) (hn : n ≤ maxLen) :
    Calls Tryd.prog 8 #[v, .int .i64 r, .int .u32 m] w fun e w' => e = .returned (.bool true) ∧ Kp w w' := by
  subst hv
  unfold maxLen at hn
  by_cases h1 : 40 < n
  · go_enter Tryd.func8, Tryd.ntmps8
    go_wp2_with (go_at_call 18; refine (radios_any _ hL).mono ?_; rintro e w' ⟨rfl, hk⟩)
    go_ret
    exact ⟨rfl, hk⟩
  · by_cases h2 : r < 0
    · go_enter Tryd.func8, Tryd.ntmps8
      go_wp2_with (go_at_call 18; refine (radios_any _ hL).mono ?_; rintro e w' ⟨rfl, hk⟩)
      go_ret
      exact ⟨rfl, hk⟩
    · have h3 : 20000 < r := by omega
      go_enter Tryd.func8, Tryd.ntmps8
      go_wp2_with (go_at_call 18; refine (radios_any _ hL).mono ?_; rintro e w' ⟨rfl, hk⟩)
      go_ret
      exact ⟨rfl, hk⟩

set_option maxRecDepth 100000 in
set_option maxHeartbeats 1000000 in
theorem top_ok (n b o c : Nat) (g : Nat → Rc) (r m : Int) (w : World) (hn0 : 0 < n) (hn : n ≤ 40) (hr0 : 0 ≤ r) (hr : r ≤ 20000) (hm0 : 0 ≤ m) (hm : m ≤ 4294967295) (hL : LaidT w) (hT : Typed n g) (hR : RowR w b o n g) :
    Calls Tryd.prog 8 #[.slice (some ⟨b, o, none⟩) n c, .int .i64 r, .int .u32 m] w fun e w' => e = .returned (.bool true) ∧ Kp w w' := by
  obtain ⟨i40, hi40, hz40, hs40, hb40⟩ := info_parts Trydinfo40
  go_enter Tryd.func8, Tryd.ntmps8
  go_wp2_with (go_at_call 18; refine (radios_any _ hL).mono ?_; rintro e w' ⟨rfl, hk⟩)
  rename_i w'
  go_loopw [9, 10] (fun q _ wr => ∃ k : Nat, k ≤ n ∧ q = .int .i64 k ∧ Kp w wr ∧ ∀ j, j < k → validB (g j).x (g j).y = true ∧ 0 ≤ (g j).d ∧ (g j).d ≤ 2) (fun q _ _ => n - (intOf q).toNat)
  case atStart => exact ⟨0, by omega, rfl, hk, fun j hj => by omega⟩
  case round =>
    obtain ⟨k, hk2, rfl, hK, hall⟩ := hrel
    clear hk
    by_cases hlt : k < n
    · have hRk := hR.kp hK
      have r0 := hRk.d k hlt
      have r2 := hRk.x k hlt
      have r3 := hRk.y k hlt
      go_wp2_with fail
      refine (valid_any _ _ _).mono ?_
      rintro e w1 ⟨rfl, k1⟩
      have r0' := k1.cell r0
      have hK1 := hK.trans k1
      cases hv : validB (g k).x (g k).y with
      | false =>
        go_wp2
        go_ret
        exact ⟨rfl, hK1⟩
      | true =>
        have HV := Lib.hid hv
        clear hv
        by_cases hd0 : 0 ≤ (g k).d
        · by_cases hd2 : (g k).d ≤ 2
          · go_wp2
            go_roundw
            case rel => exact ⟨k + 1, by omega, by simp, hK1, fun j hj => (by
              by_cases e : j = k
              · subst e; exact ⟨HV.out, hd0, hd2⟩
              · exact hall j (by omega))⟩
            case measure => simp [intOf]; omega
          · go_wp2
            go_ret
            exact ⟨rfl, hK1⟩
        · go_wp2
          go_ret
          exact ⟨rfl, hK1⟩
    · obtain rfl : n = k := by omega
      have hG : GoodR n g := ⟨fun k hk => (hall k hk).2, hT.f, fun k hk => validB_yes (hall k hk).1, hT.s, hT.v⟩
      clear hall hT
      go_wp2_with fail
      refine (caught_ok n b o c g r (m % 999999900) _ hn0 (by omega) hG hr0 hr (by omega) (by omega) (hL.kp hK) (hR.kp hK)).mono ?_
      rintro e w1 ⟨B1, rfl, k1, _, hO1⟩
      have hK1 := hK.trans k1
      clear hK
      go_wp2_with fail
      refine (caught_ok n b o c g r (m % 999999900 + 16) _ hn0 (by omega) hG hr0 hr (by omega) (by omega) (hL.kp hK1) (hR.kp hK1)).mono ?_
      rintro e w2 ⟨B2, rfl, k2, _, hO2⟩
      rw [actOf_16] at hO2
      have hK2 := hK1.trans k2
      have hO1' := hO1.kp hn0 k2
      clear hK1 hO1
      go_wp2_with fail
      refine (same_yes n B1 B2 n n _ _ (by omega) hO1'.done hO2.done).mono ?_
      rintro e w3 ⟨rfl, k3⟩
      have hK3 := hK2.trans k3
      have hO3 := hO1'.kp hn0 k3
      clear hK2 hO1' hO2
      go_wp2_with fail
      go_loopw [7, 15] (fun up q wr => ∃ k : Nat, k ≤ 16 ∧ up = .bool true ∧ q = .int .i64 k ∧ Kp w3 wr) (fun _ q _ => 16 - (intOf q).toNat)
      case atStart => exact ⟨0, by omega, rfl, rfl, Kp.refl _⟩
      case round =>
        obtain ⟨k, hk, rfl, rfl, hKo⟩ := hrel
        by_cases hlt : k < 16
        · have hKw := hK3.trans hKo
          have hRo := hR.kp hKw
          go_wp2_with (at_builtin; refine wpList_append_own _ rfl _ _ 34 rfl wr.heap.size 40 i40 (.agg #[.int .i64 0, .int .u8 0, .int .i64 0, .int .i64 0, .int .i16 0, .int .u8 0]) 6 40 Tryd.underlying34 hi40 hz40 hs40 hb40 rfl (by decide) _ 0 [] rfl (World.ownsRow_lit (e := 40) (size := 6) wr #[] 0 (Nat.le_refl _) (by unfold maxLen; omega) (by simp)) ⟨b, o, none⟩ n c (flat (rcells g) n) rfl (flat_length (sz := 6) (fun _ => rfl) n) (rowR_news (hRo.kp ((Kp.refl wr).alloc _))) (one_news g n) (by unfold maxLen; omega) (by omega) (by simp) ?_; intro v' w4 hown4 hgrow4 _)
          have hKp4 : Kp wr w4 := ((Kp.refl wr).alloc _).own hgrow4 (World.ownsRow_lit (e := 40) (size := 6) wr #[] 0 (Nat.le_refl _) (by unfold maxLen; omega) (by simp)) (Nat.le_refl _)
          simp only [Nat.zero_add, List.nil_append] at hown4
          obtain ⟨bf, cf, rfl, hbf, hff, hcf⟩ := row_of_own2 hown4 hn0
          have hRf0 : RowR w4 bf 0 n (fewTo g k 0) := (rowR_of hcf).congr (fun j hj => by unfold fewTo; rw [if_neg (by omega)])
          obtain ⟨Wo, rfl⟩ : ∃ Wo : World, Wo = wr := ⟨_, rfl⟩
          clear hown4 hgrow4 hcf hRo
          go_wp2_with fail
          go_loopw [17] (fun q wr => ∃ i : Nat, i ≤ n ∧ q = .int .i64 i ∧ Kp Wo wr ∧ RowR wr bf 0 n (fewTo g k i) ∧ ∀ j, wr.frozen? ⟨bf, j, none⟩ = false) (fun q _ => n - (intOf q).toNat)
          case atStart => exact ⟨0, by omega, rfl, hKp4, hRf0, hff⟩
          case round =>
            obtain ⟨i, hi, rfl, hKi, hRi, hfi⟩ := hrel
            clear hKp4 hRf0 hff
            by_cases hlt2 : i < n
            · have q1 := hRi.f i hlt2
              have q0 := hRi.d i hlt2
              rw [fewTo_f] at q1
              simp only [Nat.zero_add] at q0 q1
              have qf := hfi (i * 6)
              have gf := hG.f i hlt2
              by_cases hof : (g i).f % 16 = (k : Int)
              · have hb : ((g i).f % 16 != (k : Int)) = false := by rw [bne_eq_false_iff_eq]; exact hof
                have HS := Lib.hid (fewTo_step_on g k i hof)
                clear hof
                go_wp2
                go_roundw
                case rel => exact ⟨i + 1, by omega, by simp, hKi, by rw [HS.out]; exact hRi, hfi⟩
                case measure => simp [intOf]; omega
              · have hb : ((g i).f % 16 != (k : Int)) = true := by rw [bne_iff_ne]; exact hof
                have hRn := hRi.silence hlt2 hof
                rw [Nat.zero_add] at hRn
                clear hof
                go_wp2
                go_roundw
                case rel => exact ⟨i + 1, by omega, by simp, Below.setCell hKi (by simp only; omega) _, hRn, fun j => by rw [World.frozen?_setCell]; exact hfi j⟩
                case measure => simp [intOf]; omega
            · obtain rfl : n = i := by omega
              have hRF : RowR wr bf 0 n (few g k) := hRi.congr (fun j hj => fewTo_all g k n j hj)
              clear hRi hfi
              go_wp2_with fail
              refine (caught_ok n bf 0 cf (few g k) r (m % 999999900) _ hn0 (by omega) (good_few hG k) hr0 hr (by omega) (by omega) (hL.kp (hKw.trans hKi)) hRF).mono ?_
              rintro e w5 ⟨Bs, rfl, k5, _, hO5⟩
              have hK5 := hKi.trans k5
              have hKw5 := hKw.trans hK5
              have hO35 := hO3.kp hn0 (hKo.trans hK5)
              have hR5 := hR.kp hKw5
              clear hRF
              go_wp2_with fail
              go_loopw [7, 20] (fun up q wr => ∃ i : Nat, i ≤ n ∧ up = .bool true ∧ q = .int .i64 i ∧ Kp w5 wr) (fun _ q _ => n - (intOf q).toNat)
              case atStart => exact ⟨0, by omega, rfl, rfl, Kp.refl _⟩
              case round =>
                obtain ⟨i, hi, rfl, rfl, hKi5⟩ := hrel
                by_cases hlt3 : i < n
                · have q1 := (hR5.kp hKi5).f i hlt3
                  have gf := hG.f i hlt3
                  by_cases hof : (g i).f % 16 = (k : Int)
                  · have hb : ((g i).f % 16 != (k : Int)) = false := by rw [bne_eq_false_iff_eq]; exact hof
                    have s1 := hKi5.cell (hO5.done i hlt3)
                    rw [out_few g k (m % 999999900) r n i hof] at s1
                    have a1 := hKi5.cell (hO35.done i hlt3)
                    rcases out_kin g (m % 999999900) r n i with hneg | ⟨j, hj, hjn, hjf⟩
                    · generalize outV (actOf (m % 999999900) g) (plcOf g) r n i = v at s1 a1 hneg
                      clear hof
                      have hvv : (v == v) = true := by simp
                      have hv0 : decide (v < 0) = true := by simpa using hneg
                      go_wp2
                      go_quiet (fail)
                      go_wp2
                      go_roundw
                      case rel => exact ⟨i + 1, by omega, rfl, by simp, hKi5.drewN _⟩
                      case measure => simp [intOf]; omega
                    · rw [hj] at s1 a1
                      have q2 := (hR5.kp hKi5).f j hjn
                      have gf2 := hG.f j hjn
                      have hjk : ((g j).f % 16 == (k : Int)) = true := by rw [beq_iff_eq, hjf]; exact hof
                      clear hof hj hjf
                      have hvv : ((j : Int) == (j : Int)) = true := by simp
                      go_wp2
                      go_quiet (fail)
                      go_wp2
                      go_roundw
                      case rel => exact ⟨i + 1, by omega, by rw [IntWalk.i64_in (g j).f (by omega), Int.tmod_eq_emod_of_nonneg (by omega), hjk, Bool.or_true], by simp, hKi5.drewN _⟩
                      case measure => simp [intOf]; omega
                  · have hb : ((g i).f % 16 != (k : Int)) = true := by rw [bne_iff_ne]; exact hof
                    clear hof
                    go_wp2
                    go_roundw
                    case rel => exact ⟨i + 1, by omega, rfl, by simp, hKi5⟩
                    case measure => simp [intOf]; omega
                · obtain rfl : n = i := by omega
                  go_wp2
                  go_roundw
                  case rel => exact ⟨k + 1, by omega, rfl, by simp, hKo.trans (hK5.trans hKi5)⟩
                  case measure => simp [intOf]; omega
        · go_wp2
          go_ret
          exact ⟨rfl, hK3.trans hKo⟩
end Go.Proofs.YtbgnkopnbgaabaaDoor
