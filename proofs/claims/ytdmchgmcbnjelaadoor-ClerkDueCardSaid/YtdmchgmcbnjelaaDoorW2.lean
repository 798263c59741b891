/- Walks: the calendar of the reference; times that are out of range. -/
import Derived.Test.YtdmchgmcbnjelaaDoorW1
namespace Go.Proofs.YtdmchgmcbnjelaaDoor
open Go.RowKit

set_option maxHeartbeats 400000 in
theorem of_err (m : Int) (w : World) (h : m < -1035593280 ∨ 4223371679 < m) :
    Calls Tryd.prog 22 #[.int .i64 m] w fun e w' => e = .returned (.tuple #[.agg #[.int .i64 0, .int .i64 0, .int .i64 0, .int .i64 0, .int .i64 0, .int .i64 0], .int .i64 1]) ∧ Below w.heap.size w w' := by
  rcases h with h | h
  · go_enter Tryd.func22, Tryd.ntmps22
    go_wp2
    exact bodyPost_ret (v := .tuple #[.agg #[.int .i64 0, .int .i64 0, .int .i64 0, .int .i64 0, .int .i64 0, .int .i64 0], .int .i64 1]) (by simp [results, Tryd.results22, go_sem]) rfl ⟨rfl, (Below.refl _ _).alloc (Nat.le_refl _) _⟩
  · have h' : ¬ m < -1035593280 := by omega
    go_enter Tryd.func22, Tryd.ntmps22
    go_wp2
    exact bodyPost_ret (v := .tuple #[.agg #[.int .i64 0, .int .i64 0, .int .i64 0, .int .i64 0, .int .i64 0, .int .i64 0], .int .i64 1]) (by simp [results, Tryd.results22, go_sem]) rfl ⟨rfl, (Below.refl _ _).alloc (Nat.le_refl _) _⟩

set_option maxHeartbeats 400000 in
theorem rahead_any (y : Int) (w : World) (h1 : 1 ≤ y) (h2 : y ≤ 20000) :
    Calls Tryd.prog 31 #[.int .i64 y] w fun e w' => e = .returned (.int .i64 (Cal.ahead y)) ∧ w' = w := by
  go_enter Tryd.func31, Tryd.ntmps31
  go_wp2
  go_ret
  exact ⟨retInt (by unfold Cal.ahead; omega), rfl⟩

set_option maxHeartbeats 400000 in
theorem rleap_any (y : Int) (w : World) (h1 : 1 ≤ y) (h2 : y ≤ 20000) :
    Calls Tryd.prog 45 #[.int .i64 y] w fun e w' => e = .returned (.bool (Cal.leap y)) ∧ w' = w := by
  go_enter Tryd.func45, Tryd.ntmps45
  go_wp2
  all_goals
    go_ret
    refine ⟨retBool ?_, rfl⟩
    simp_all [Cal.leap]
    try omega

set_option maxHeartbeats 400000 in
theorem rdays_any (y m : Int) (w : World) (h1 : 1 ≤ y) (h2 : y ≤ 20000) :
    Calls Tryd.prog 32 #[.int .i64 y, .int .i64 m] w fun e w' => e = .returned (.int .i64 (Cal.days y m)) ∧ w' = w := by
  by_cases c : m = 2
  · subst c
    cases hd : Cal.leap y
    all_goals
      have HD := Lib.hid hd
      clear hd
      go_enter Tryd.func32, Tryd.ntmps32
      go_wp2_with (go_at_call 45; refine (rleap_any _ _ h1 h2).mono ?_; rw [HD.out]; rintro e w' ⟨rfl, rfl⟩)
      go_ret
      exact ⟨retInt (by simp [Cal.days, Cal.lp, HD.out]), rfl⟩
  · have c2 : (m == 2) = false := by simpa using c
    go_enter Tryd.func32, Tryd.ntmps32
    go_wp2
    all_goals
      go_ret
      refine ⟨retInt ?_, rfl⟩
      unfold Cal.days
      simp_all
      try omega

def dzero : Value := .agg #[.int .i64 0, .int .i64 0, .int .i64 0, .int .i64 0, .int .i64 0, .int .i64 0]

set_option maxHeartbeats 400000 in
theorem rof_err (m : Int) (w : World) (_h0 : 0 ≤ m) (h : 4223371679 < m) (hb : m ≤ 1099511627776) :
    Calls Tryd.prog 15 #[.int .i64 m] w fun e w' => e = .returned (.tuple #[.agg #[.int .i64 0, .int .i64 0, .int .i64 0, .int .i64 0, .int .i64 0, .int .i64 0], .int .i64 1]) ∧ Below w.heap.size w w' := by
  have h1 : ¬ m % 1440 < 0 := by omega
  have h2 : ¬ m / 1440 < -719162 := by omega
  have h3 : 2932897 ≤ m / 1440 := by omega
  have hl := Lib.hid Cal.ahead_last
  go_enter Tryd.func15, Tryd.ntmps15
  go_wp2_with (go_at_call 31; refine (rahead_any _ _ (by omega) (by omega)).mono ?_; rw [hl.out]; rintro e w' ⟨rfl, rfl⟩)
  exact bodyPost_ret (v := .tuple #[.agg #[.int .i64 0, .int .i64 0, .int .i64 0, .int .i64 0, .int .i64 0, .int .i64 0], .int .i64 1]) (by simp [results, Tryd.results15, go_sem]) rfl ⟨rfl, (Below.refl _ _).alloc (Nat.le_refl _) _⟩

set_option maxHeartbeats 1000000 in
theorem rof_any (m n r : Int) (w : World) (h1 : 0 ≤ m) (h2 : m ≤ 4223371679) (hn0 : 0 ≤ n) (hn1 : n < 3652059) (hr0 : 0 ≤ r) (hr1 : r < 1440)
     (hq : m / 1440 = n - 719162) (hr : m % 1440 = r) :
    Calls Tryd.prog 15 #[.int .i64 m] w fun e w' => ∃ y mo d : Int, e = .returned (.tuple #[.agg #[.int .i64 y, .int .i64 mo, .int .i64 d, .int .i64 (r / 60), .int .i64 (r % 60), .int .i64 ((n + 1) % 7)], .int .i64 0]) ∧ Cal.IsDate n y mo d ∧ Below w.heap.size w w' := by
  have h3 : ¬ r < 0 := by omega
  have h4 : ¬ n - 719162 < -719162 := by omega
  have h5 : ¬ 2932897 ≤ n - 719162 := by omega
  have hl := Lib.hid Cal.ahead_last
  go_enter Tryd.func15, Tryd.ntmps15
  go_wp2_with (go_at_call 31; refine (rahead_any _ _ (by omega) (by omega)).mono ?_; rw [hl.out]; rintro e w' ⟨rfl, rfl⟩)
  have hg := Cal.guess' n hn0 hn1
  clear hq hr h3 h4 h5
  generalize n / 366 + 1 = g at *
  go_loop [6] (fun v => ∃ y : Int, 1 ≤ y ∧ y ≤ 9999 ∧ Cal.ahead y ≤ n ∧ v = .int .i64 y) (fun v => (9999 - intOf v).toNat)
  case atStart => exact ⟨g, hg.1, hg.2.1, hg.2.2, rfl⟩
  case round =>
    obtain ⟨y, hy1, hy2, hy3, rfl⟩ := hrel
    by_cases hc : Cal.ahead (y + 1) ≤ n
    · have hb : y ≠ 9999 := by intro e; subst e; have := hl.out; simp only [Int.reduceAdd] at hc; omega
      go_wp2_with (go_at_call 31; refine (rahead_any _ _ (by omega) (by omega)).mono ?_; rintro e w' ⟨rfl, rfl⟩)
      go_round
      case rel => exact ⟨y + 1, by omega, by omega, hc, rfl⟩
      case measure => simp [intOf]; omega
    · have hc' : n < Cal.ahead (y + 1) := by omega
      have hlt : n - Cal.ahead y ≤ 365 := by have hs := Cal.ahead_succ y; have hl := Cal.lp_01 y; omega
      go_wp2_with (go_at_call 31; refine (rahead_any _ _ (by omega) (by omega)).mono ?_; rintro e w' ⟨rfl, rfl⟩)
      have hs := Cal.ahead_succ y
      have hl := Cal.lp_01 y
      go_loop [7, 8] (fun v u => ∃ mo : Int, 1 ≤ mo ∧ mo ≤ 12 ∧ Cal.cum y mo ≤ n - Cal.ahead y ∧ v = .int .i64 (n - Cal.ahead y - Cal.cum y mo) ∧ u = .int .i64 mo) (fun _ u => (12 - intOf u).toNat)
      case atStart => exact ⟨1, by omega, by omega, by rw [Cal.cum_one]; omega, by rw [Cal.cum_one]; go_num, rfl⟩
      case round =>
        obtain ⟨mo, hm1, hm2, hm3, rfl, rfl⟩ := hrel
        have hcs := Cal.cum_succ y mo hm1 hm2
        have hce := Cal.cum_end y
        have hdb := Cal.days_bd y mo hm1 hm2
        have hcm := Cal.cum_mono y hm1
        have hc1 := Cal.cum_one y
        have hcm0 : 0 ≤ Cal.cum y mo := by omega
        have HS := Lib.hid hs; have HCS := Lib.hid hcs; have HCE := Lib.hid hce
        clear hs hcs hce hc1
        by_cases hd : Cal.days y mo ≤ n - Cal.ahead y - Cal.cum y mo
        · have hb : mo ≠ 12 := by
            intro e; subst e
            have a1 := HS.out; have a2 := HCS.out; have a3 := HCE.out
            simp only [Int.reduceAdd] at a2
            omega
          go_wp2_with (go_at_call 32; refine (rdays_any _ _ _ (by omega) (by omega)).mono ?_; rintro e w' ⟨rfl, rfl⟩)
          go_round
          case rel => exact ⟨mo + 1, by omega, by omega, by rw [HCS.out]; omega, by rw [HCS.out]; exact congrArg (Value.int .i64) (by omega), rfl⟩
          case measure => simp [intOf]; omega
        · have hd' : n - Cal.ahead y - Cal.cum y mo < Cal.days y mo := by omega
          clear hd
          go_wp2_with (go_at_call 32; refine (rdays_any _ _ _ (by omega) (by omega)).mono ?_; rintro e w' ⟨rfl, rfl⟩)
          refine bodyPost_ret (v := .tuple #[.agg #[.int .i64 y, .int .i64 mo, .int .i64 (n - Cal.ahead y - Cal.cum y mo + 1), .int .i64 (r / 60), .int .i64 (r % 60), .int .i64 ((n + 1) % 7)], .int .i64 0]) (by simp [results, Tryd.results15, go_sem]) rfl ⟨y, mo, _, rfl, ⟨hy1, hy3, hc', hm1, hm2, hm3, by rw [HCS.out]; omega, rfl⟩, ?_⟩
          exact (Below.refl _ _).alloc (Nat.le_refl _) _
end Go.Proofs.YtdmchgmcbnjelaaDoor
