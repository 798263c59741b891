/- Plain facts: the first minute of a day that is allowed. -/
import Derived.Test.YtdmchgmcbnjelaaDoorW4
namespace Go.Proofs.YtdmchgmcbnjelaaDoor
open Go.RowKit

def okM (E : Ex) (k : Int) : Bool := tb E.mi (k % 60) && tb E.ho (k / 60)
def EarlyIs (E : Ex) (f r : Int) : Prop := (r = -1 ∧ ∀ k : Int, f ≤ k → k < 1440 → okM E k = false) ∨ (f ≤ r ∧ r < 1440 ∧ okM E r = true ∧ ∀ k : Int, f ≤ k → k < r → okM E k = false)

theorem firstIs_lt {X n r} (k : Nat) (h : FirstIs X n r) (hX : X < 2 ^ k) : r < k := by
  rcases h with ⟨rfl, _⟩ | ⟨a, b, c, d⟩
  · omega
  · rcases Int.lt_or_le r k with q | q
    · exact q
    · rw [tb_of_lt X r k hX q] at c; exact absurd c (by simp)

theorem early_hit (E : Ex) (f m : Int) (h0 : 0 ≤ f) (h1 : f < 1440) (hh : tb E.ho (f / 60) = true) (hm : FirstIs E.mi (f % 60) m) (hm0 : 0 ≤ m) : EarlyIs E f (60 * (f / 60) + m) := by
  rcases hm with ⟨rfl, _⟩ | ⟨a, b, c, d⟩
  · omega
  · have e1 : (60 * (f / 60) + m) % 60 = m := by omega
    have e2 : (60 * (f / 60) + m) / 60 = f / 60 := by omega
    refine Or.inr ⟨by omega, by omega, by unfold okM; rw [e1, e2, hh, c]; rfl, fun k k1 k2 => ?_⟩
    have := d (k % 60) (by omega) (by omega)
    unfold okM; rw [this]; rfl

theorem early_later (E : Ex) (f h m : Int) (h0 : 0 ≤ f) (h1 : f < 1440) (hE : E.ho < 16777216)
    (hno : ∀ k : Int, f ≤ k → k / 60 = f / 60 → okM E k = false) (hh : FirstIs E.ho (f / 60 + 1) h) (hm : FirstIs E.mi 0 m) :
    ((h < 0 ∨ m < 0) → EarlyIs E f (-1)) ∧ (0 ≤ h → 0 ≤ m → EarlyIs E f (60 * h + m)) := by
  constructor
  · intro q
    refine Or.inl ⟨rfl, fun k k1 k2 => ?_⟩
    by_cases c : k / 60 = f / 60
    · exact hno k k1 c
    · unfold okM
      rcases q with q | q
      · rcases hh with ⟨_, a⟩ | ⟨a, _⟩
        · rw [a (k / 60) (by omega)]; simp
        · omega
      · rcases hm with ⟨_, a⟩ | ⟨a, _⟩
        · rw [a (k % 60) (by omega)]; simp
        · omega
  · intro q1 q2
    have hlt := firstIs_lt 24 hh (by simpa using hE)
    rcases hh with ⟨rfl, _⟩ | ⟨a1, a2, a3, a4⟩
    · omega
    rcases hm with ⟨rfl, _⟩ | ⟨b1, b2, b3, b4⟩
    · omega
    have e1 : (60 * h + m) % 60 = m := by omega
    have e2 : (60 * h + m) / 60 = h := by omega
    refine Or.inr ⟨by omega, by omega, by unfold okM; rw [e1, e2, a3, b3]; rfl, fun k k1 k2 => ?_⟩
    by_cases c : k / 60 = f / 60
    · exact hno k k1 c
    · unfold okM
      by_cases d : k / 60 = h
      · rw [b4 (k % 60) (by omega) (by omega)]; simp
      · rw [a4 (k / 60) (by omega) (by omega)]; simp

theorem hno_miss (E : Ex) (f : Int) (hm : FirstIs E.mi (f % 60) (-1)) : ∀ k : Int, f ≤ k → k / 60 = f / 60 → okM E k = false := by
  intro k k1 k2
  rcases hm with ⟨_, a⟩ | ⟨a, _⟩
  · unfold okM; rw [a (k % 60) (by omega)]; simp
  · omega

theorem first_ne (X : Nat) (n h : Int) (_hn : 0 ≤ n) (hh : FirstIs X n h) (hne : h ≠ n) : FirstIs X (n + 1) h ∧ tb X n = false := by
  rcases hh with ⟨rfl, a⟩ | ⟨a, b, c, d⟩
  · exact ⟨Or.inl ⟨rfl, fun k hk => a k (by omega)⟩, a n (by omega)⟩
  · exact ⟨Or.inr ⟨by omega, b, c, fun k k1 k2 => d k (by omega) k2⟩, d n (by omega) (by omega)⟩

theorem first_eq (X : Nat) (n : Int) (hn : 0 ≤ n) (hh : FirstIs X n n) : tb X n = true := by
  rcases hh with ⟨a, _⟩ | ⟨_, _, c, _⟩
  · omega
  · exact c

theorem hno_hour (E : Ex) (f : Int) (h : tb E.ho (f / 60) = false) : ∀ k : Int, f ≤ k → k / 60 = f / 60 → okM E k = false := by
  intro k _ k2
  unfold okM; rw [k2, h]; simp

theorem and_span (X a : Nat) (hX : X < 2 ^ (a + 1)) (ha : a < 60) : Go.bits .and .u64 (X : Int) (spanN 0 a) = (X : Int) := by
  have h1 : (2 : Nat) ^ (a + 1) ≤ 2 ^ 60 := Nat.pow_le_pow_right (by decide) (by omega)
  have h2 := spanN_lt 0 a ha
  simp only [Nat.reducePow] at h1
  rw [bits_and_u64_nat _ _ (by omega) (by omega)]
  congr 1
  apply Nat.eq_of_testBit_eq
  intro k
  rw [Nat.testBit_and, spanN_bit _ _ _ (by omega)]
  by_cases c : k ≤ a
  · simp [c]
  · rw [Nat.testBit_lt_two_pow (Nat.lt_of_lt_of_le hX (Nat.pow_le_pow_right (by decide) (by omega)))]; rfl

end Go.Proofs.YtdmchgmcbnjelaaDoor
