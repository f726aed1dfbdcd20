/-
  The plain law of the hopping table: the two tables are inverse to each other, and what the functions compute out of them. No condition but the bounds in each lemma.
-/
import Init
namespace Go.Proofs.YtbgnkopnbgaabaaDoor

def tblL : List Int := [0, 5, 10, 15, 4, 9, 14, 3, 8, 13, 2, 7, 12, 1, 6, 11]
def plcL : List Int := [0, 13, 10, 7, 4, 1, 14, 11, 8, 5, 2, 15, 12, 9, 6, 3]
def tb (k : Nat) : Int := tblL.getD k 0
def pl (k : Nat) : Int := plcL.getD k 0

theorem tb_range : ∀ k, k < 16 → 0 ≤ tb k ∧ tb k < 16 := by decide
theorem pl_range : ∀ k, k < 16 → 0 ≤ pl k ∧ pl k < 16 := by decide
theorem pl_tb : ∀ k, k < 16 → pl (tb k).toNat = (k : Int) := by decide
theorem tb_pl : ∀ k, k < 16 → tb (pl k).toNat = (k : Int) := by decide

/-- The channel of the sum `s` of a slot and an offset. -/
def ch (s : Int) : Int := tb (s % 16).toNat
/-- The place of the channel `c`, from the slot `s` on. -/
def st (s c : Int) : Int := (pl c.toNat - s) % 16

theorem ch_range (s : Int) : 0 ≤ ch s ∧ ch s < 16 := tb_range _ (by omega)
theorem st_range (s c : Int) : 0 ≤ st s c ∧ st s c < 16 := by unfold st; omega

theorem ch_add (s c k : Int) (hc0 : 0 ≤ c) (hc : c < 16) : ch (s + k) = c ↔ (k - st s c) % 16 = 0 := by
  have hp := pl_range c.toNat (by omega)
  constructor
  · intro h
    have h1 := pl_tb ((s + k) % 16).toNat (by omega)
    have h2 : tb ((s + k) % 16).toNat = c := h
    rw [h2] at h1
    unfold st
    omega
  · intro h
    have h1 := tb_pl c.toNat (by omega)
    have h2 : (s + k) % 16 = pl c.toNat := by unfold st at h; omega
    unfold ch
    rw [h2, h1]
    omega

theorem ch_st (s c : Int) (hc0 : 0 ≤ c) (hc : c < 16) : ch (s + st s c) = c := (ch_add s c _ hc0 hc).2 (by omega)
theorem ch_ne (s c k : Int) (hc0 : 0 ≤ c) (hc : c < 16) (h0 : 0 ≤ k) (h : k < st s c) : ch (s + k) ≠ c := by
  intro e
  have := (ch_add s c k hc0 hc).1 e
  have := st_range s c
  omega
theorem st_of (s c k : Int) (hc0 : 0 ≤ c) (hc : c < 16) (h0 : 0 ≤ k) (h : k < 16) (e : ch (s + k) = c) : k = st s c := by
  have := (ch_add s c k hc0 hc).1 e
  have := st_range s c
  omega
theorem st_ch (s k : Int) (h0 : 0 ≤ k) (h : k < 16) : st s (ch (s + k)) = k :=
  (st_of s _ k (ch_range _).1 (ch_range _).2 h0 h rfl).symm
theorem ch_inj (s a b : Int) (ha0 : 0 ≤ a) (ha : a < 16) (hb0 : 0 ≤ b) (hb : b < 16) (e : ch (s + a) = ch (s + b)) : a = b := by
  have h1 := st_ch s a ha0 ha
  have h2 := st_ch s b hb0 hb
  rw [e] at h1
  omega
theorem ch_16 (s : Int) : ch (s + 16) = ch s := by unfold ch; congr 2; omega

/-- Go's two divisions in 'steps', as Lean's own. -/
theorem steps_eq (f t : Int) : ((t - f).tmod 16 + 16).tmod 16 = (t - f) % 16 := by
  have h1 : (t - f).tmod 16 = (t - f) % 16 ∨ (t - f).tmod 16 = (t - f) % 16 - 16 := by
    rw [Int.tmod_eq_emod]
    split <;> simp <;> omega
  rw [Int.tmod_eq_emod_of_nonneg (by omega)]
  omega
end Go.Proofs.YtbgnkopnbgaabaaDoor
