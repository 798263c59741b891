/- Plain facts on dates: of a day's number there is one date alone. No program, no memory. -/
import Init
namespace Go.Proofs.YtdmchgmcbnjelaaDoor.Cal

/-- days ahead of a year, from the year 1 on -/
def ahead (y : Int) : Int := 365 * (y - 1) + (y - 1) / 4 - (y - 1) / 100 + (y - 1) / 400
def leap (y : Int) : Bool := (y % 4 == 0 && y % 100 != 0) || y % 400 == 0
def lp (y : Int) : Int := if leap y then 1 else 0
def days (y m : Int) : Int :=
  if m < 1 ∨ 12 < m then 0 else if m = 2 then 28 + lp y else if m = 4 ∨ m = 6 ∨ m = 9 ∨ m = 11 then 30 else 31
/-- days of a year ahead of a month -/
def cum (y m : Int) : Int :=
  if m ≤ 1 then 0 else if m = 2 then 31 else if m = 3 then 59 + lp y else if m = 4 then 90 + lp y else if m = 5 then 120 + lp y
  else if m = 6 then 151 + lp y else if m = 7 then 181 + lp y else if m = 8 then 212 + lp y else if m = 9 then 243 + lp y
  else if m = 10 then 273 + lp y else if m = 11 then 304 + lp y else if m = 12 then 334 + lp y else 365 + lp y

theorem lp_01 (y : Int) : 0 ≤ lp y ∧ lp y ≤ 1 := by unfold lp; split <;> omega

theorem leap_iff (y : Int) : leap y = true ↔ (y % 4 = 0 ∧ y % 100 ≠ 0) ∨ y % 400 = 0 := by
  simp [leap]

theorem lp_eq (y : Int) : lp y = y / 4 - y / 100 + y / 400 - ((y - 1) / 4 - (y - 1) / 100 + (y - 1) / 400) := by
  unfold lp
  by_cases h : leap y = true
  · rw [if_pos h]; rw [leap_iff] at h; omega
  · rw [if_neg h]; rw [leap_iff] at h; omega

theorem ahead_succ (y : Int) : ahead (y + 1) = ahead y + 365 + lp y := by
  have := lp_eq y
  unfold ahead
  have e : y + 1 - 1 = y := by omega
  rw [e]; omega

theorem ahead_mono {a b : Int} (h : a ≤ b) : ahead a ≤ ahead b := by
  unfold ahead; omega

theorem ahead_one : ahead 1 = 0 := by decide
theorem ahead_last : ahead 10000 = 3652059 := by decide

theorem cum_succ (y m : Int) (h1 : 1 ≤ m) (h2 : m ≤ 12) : cum y (m + 1) = cum y m + days y m := by
  have := lp_01 y
  have hm : m = 1 ∨ m = 2 ∨ m = 3 ∨ m = 4 ∨ m = 5 ∨ m = 6 ∨ m = 7 ∨ m = 8 ∨ m = 9 ∨ m = 10 ∨ m = 11 ∨ m = 12 := by omega
  rcases hm with rfl | rfl | rfl | rfl | rfl | rfl | rfl | rfl | rfl | rfl | rfl | rfl <;> simp [cum, days] <;> omega

theorem days_bd (y m : Int) (h1 : 1 ≤ m) (h2 : m ≤ 12) : 28 ≤ days y m ∧ days y m ≤ 31 := by
  have := lp_01 y
  unfold days
  repeat' split
  all_goals omega

theorem days_nonneg (y m : Int) : 0 ≤ days y m ∧ days y m ≤ 31 := by
  have := lp_01 y
  unfold days
  repeat' split
  all_goals omega

theorem cum_mono (y : Int) {a b : Int} (h : a ≤ b) : cum y a ≤ cum y b := by
  have := lp_01 y
  unfold cum
  repeat' split
  all_goals omega

theorem cum_end (y : Int) : cum y 13 = 365 + lp y := by simp [cum]
theorem cum_one (y : Int) : cum y 1 = 0 := by simp [cum]

/-- the date of a day's number (day 0: the first one of the year 1) -/
structure IsDate (n y m d : Int) : Prop where
  y1 : 1 ≤ y
  lo : ahead y ≤ n
  hi : n < ahead (y + 1)
  m1 : 1 ≤ m
  m2 : m ≤ 12
  mlo : cum y m ≤ n - ahead y
  mhi : n - ahead y < cum y (m + 1)
  d0 : d = n - ahead y - cum y m + 1

theorem IsDate.uniq {n y m d y' m' d' : Int} (h : IsDate n y m d) (k : IsDate n y' m' d') : y = y' ∧ m = m' ∧ d = d' := by
  have hy : y = y' := by
    rcases Int.lt_trichotomy y y' with c | c | c
    · have := ahead_mono (a := y + 1) (b := y') (by omega); have := h.hi; have := k.lo; omega
    · exact c
    · have := ahead_mono (a := y' + 1) (b := y) (by omega); have := k.hi; have := h.lo; omega
  subst hy
  have hm : m = m' := by
    rcases Int.lt_trichotomy m m' with c | c | c
    · have := cum_mono y (a := m + 1) (b := m') (by omega); have := h.mhi; have := k.mlo; omega
    · exact c
    · have := cum_mono y (a := m' + 1) (b := m) (by omega); have := k.mhi; have := h.mlo; omega
  subst hm
  exact ⟨rfl, rfl, h.d0.trans k.d0.symm⟩

theorem IsDate.bounds {n y m d : Int} (h : IsDate n y m d) : 1 ≤ d ∧ d ≤ 31 := by
  have a := cum_succ y m h.m1 h.m2
  have b := days_bd y m h.m1 h.m2
  have := h.mlo; have := h.mhi; have := h.d0
  omega

theorem IsDate.year {n y m d : Int} (h : IsDate n y m d) (hn : n < 3652059) : y ≤ 9999 := by
  rcases Int.lt_or_le y 10000 with c | c
  · omega
  · have := ahead_mono c; rw [ahead_last] at this; have := h.lo; omega

/-- the first guess of a year is none too late -/
theorem guess (n : Int) (h0 : 0 ≤ n) (h1 : n < 3652059) :
    1 ≤ 400 * (n / 146097) + n % 146097 / 366 + 1 ∧ 400 * (n / 146097) + n % 146097 / 366 + 1 ≤ 9999 ∧ ahead (400 * (n / 146097) + n % 146097 / 366 + 1) ≤ n := by
  unfold ahead
  have e : 400 * (n / 146097) + n % 146097 / 366 + 1 - 1 = 400 * (n / 146097) + n % 146097 / 366 := by omega
  rw [e]
  omega

theorem guess' (n : Int) (h0 : 0 ≤ n) (h1 : n < 3652059) :
    1 ≤ n / 366 + 1 ∧ n / 366 + 1 ≤ 9999 ∧ ahead (n / 366 + 1) ≤ n := by
  unfold ahead
  have e : n / 366 + 1 - 1 = n / 366 := by omega
  rw [e]
  omega

end Go.Proofs.YtdmchgmcbnjelaaDoor.Cal
