/- Walks: the program's search for the next minute. -/
import Derived.Test.YtdmchgmcbnjelaaDoorW3
namespace Go.Proofs.YtdmchgmcbnjelaaDoor
open Go.RowKit

set_option maxHeartbeats 400000 in
theorem span_any (a b : Int) (w : World) (h0 : 0 ≤ a) (h1 : a ≤ b) (h2 : b < 60) :
    Calls Tryd.prog 39 #[.int .i64 a, .int .i64 b] w fun e w' => e = .returned (.int .u64 (spanN a.toNat b.toNat)) ∧ ∃ n, w' = w.drewN n := by
  have hs := Lib.hid (span_bits a b h0 h1 h2)
  go_enter Tryd.func39, Tryd.ntmps39
  go_wp2
  go_quiet (fail)
  go_wp2
  go_ret
  exact ⟨retInt hs.out, _, rfl⟩

set_option maxHeartbeats 400000 in
theorem floor_any (m : Int) (w : World) (h1 : -1035593280 ≤ m) (h2 : m ≤ 1099511627776) :
    Calls Tryd.prog 24 #[.int .i64 m] w fun e w' => e = .returned (.int .i64 (m - m % 1440)) ∧ w' = w := by
  have ht : m.tmod 1440 = if m < 0 ∧ m % 1440 ≠ 0 then m % 1440 - 1440 else m % 1440 := by
    rw [Int.tmod_eq_emod]
    by_cases a : 0 ≤ m
    · simp [a]; omega
    · by_cases b : m % 1440 = 0
      · have : (1440 : Int) ∣ m := Int.dvd_of_emod_eq_zero b
        simp [this, b]
      · have : ¬ (1440 : Int) ∣ m := fun h => b (Int.emod_eq_zero_of_dvd h)
        simp [a, this, b]
      try omega
  by_cases c : m < 0 ∧ m % 1440 ≠ 0
  · rw [if_pos c] at ht
    have h3 : m.tmod 1440 < 0 := by omega
    have h4 : -1440 < m.tmod 1440 := by omega
    have HT := Lib.hid ht
    clear ht c
    go_enter Tryd.func24, Tryd.ntmps24
    go_wp2
    go_ret
    exact ⟨retInt (by rw [HT.out]; omega), rfl⟩
  · rw [if_neg c] at ht
    have h3 : ¬ m.tmod 1440 < 0 := by omega
    have h4 : m.tmod 1440 < 1440 := by omega
    have HT := Lib.hid ht
    clear ht c
    go_enter Tryd.func24, Tryd.ntmps24
    go_wp2
    go_ret
    exact ⟨retInt (by rw [HT.out]), rfl⟩

/-- what 'first' tells -/
def FirstIs (X : Nat) (n r : Int) : Prop := (r = -1 ∧ ∀ k : Int, n ≤ k → tb X k = false) ∨ (n ≤ r ∧ r < 60 ∧ tb X r = true ∧ ∀ k : Int, n ≤ k → k < r → tb X k = false)

def FirstTells (X : Nat) (n : Int) (w : World) (e : Ending) (w' : World) : Prop := ∃ r : Int, e = .returned (.int .i64 r) ∧ FirstIs X n r ∧ w' = w

theorem firstIs_none (X : Nat) (n : Int) (hX : X < 1152921504606846976) (h0 : 0 ≤ n) (h1 : n ≤ 60) (h : fromN X n.toNat = 0) : FirstIs X n (-1) := by
  refine Or.inl ⟨rfl, fun k hk => ?_⟩
  have := fromN_bit X n.toNat k.toNat hX (by omega)
  rw [h] at this
  simp at this
  unfold tb
  cases hb : X.testBit k.toNat
  · rfl
  · have := this hb; omega

theorem firstIs_some (X : Nat) (n : Int) (hX : X < 1152921504606846976) (h0 : 0 ≤ n) (h1 : n ≤ 60) (h : fromN X n.toNat ≠ 0) : FirstIs X n (Lib.ctz 64 (fromN X n.toNat) : Int) := by
  obtain ⟨c1, c2⟩ := ctz_spec _ h (fromN_lt X n.toNat hX)
  generalize Lib.ctz 64 (fromN X n.toNat) = c at *
  rw [fromN_bit X n.toNat c hX (by omega)] at c1
  simp at c1
  have hc : c < 60 := by
    rcases Nat.lt_or_ge c 60 with q | q
    · exact q
    · have := Nat.testBit_lt_two_pow (i := c) (Nat.lt_of_lt_of_le hX (show (2 : Nat) ^ 60 ≤ 2 ^ c from Nat.pow_le_pow_right (by decide) q))
      simp [this] at c1
  refine Or.inr ⟨by omega, by omega, by unfold tb; simpa using c1.1, fun k k1 k2 => ?_⟩
  have := c2 k.toNat (by omega)
  rw [fromN_bit X n.toNat k.toNat hX (by omega)] at this
  have hk : n.toNat ≤ k.toNat := by omega
  simp [hk] at this
  exact this

set_option maxHeartbeats 400000 in
theorem first_any (X : Nat) (n : Int) (w : World) (hX : X < 1152921504606846976) (h0 : 0 ≤ n) (h1 : n ≤ 60) (hT : TabAt 2 Lib.deBruijn64tab w) :
    Calls Tryd.prog 44 #[.int .u64 X, .int .i64 n] w (FirstTells X n w) := by
  have hb := first_bits X n hX h0 h1
  have hl := fromN_lt X n.toNat hX
  have hn := firstIs_none X n hX h0 h1
  have hs := firstIs_some X n hX h0 h1
  generalize fromN X n.toNat = F at *
  have HT := Lib.hid hT
  have HN := Lib.hid hn
  have HS := Lib.hid hs
  clear hn hs hT
  by_cases hz : F = 0
  · subst hz
    have hz' : ((0 : Nat) : Int) = 0 := rfl
    rw [hz'] at hb
    go_enter Tryd.func44, Tryd.ntmps44
    go_wp2
    go_ret
    exact ⟨-1, rfl, HN.out trivial, rfl⟩
  · have hz' : ((F : Int) == 0) = false := by simp; omega
    have HZ := Lib.hid hz
    clear hz
    go_enter Tryd.func44, Tryd.ntmps44
    go_wp2_with fail
    refine (Tryd.bits_TrailingZeros64 F (by omega) _ (fun _ => HT.out)).mono ?_
    rintro e w' ⟨rfl, rfl⟩
    go_wp2
    go_ret
    exact ⟨_, rfl, HS.out HZ.out, rfl⟩

end Go.Proofs.YtdmchgmcbnjelaaDoor
