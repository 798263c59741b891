/- Walks: the calendar of the program. -/
import Derived.Test.YtdmchgmcbnjelaaDoorProg
import Derived.Test.YtdmchgmcbnjelaaDoorCal
import Derived.WalkKit
import Derived.WalkSpells
import Derived.WalkLawsBesides
import Derived.BigQuiet
import Derived.Deep.QuietTactic
import Derived.Deep.LoopGhost
import Derived.Lib.Hide
namespace Go.Proofs.YtdmchgmcbnjelaaDoor
open Go.RowKit

theorem retInt {k : IntKind} {a b : Int} (h : a = b) : Ending.returned (.int k a) = .returned (.int k b) := by rw [h]
theorem retBool {a b : Bool} (h : a = b) : Ending.returned (.bool a) = .returned (.bool b) := by rw [h]

set_option maxHeartbeats 400000 in
theorem ahead_any (y : Int) (w : World) (h1 : 1 ≤ y) (h2 : y ≤ 20000) :
    Calls Tryd.prog 42 #[.int .i64 y] w fun e w' => e = .returned (.int .i64 (Cal.ahead y)) ∧ w' = w := by
  go_enter Tryd.func42, Tryd.ntmps42
  go_wp2
  go_ret
  exact ⟨retInt (by unfold Cal.ahead; omega), rfl⟩

set_option maxHeartbeats 400000 in
theorem leap_any (y : Int) (w : World) (h1 : 1 ≤ y) (h2 : y ≤ 20000) :
    Calls Tryd.prog 52 #[.int .i64 y] w fun e w' => e = .returned (.bool (Cal.leap y)) ∧ w' = w := by
  go_enter Tryd.func52, Tryd.ntmps52
  go_wp2
  all_goals
    go_ret
    refine ⟨retBool ?_, rfl⟩
    simp_all [Cal.leap]

theorem ix0 (w : World) : (Instr.index 87 (.agg #[.int .i64 31, .int .i64 28, .int .i64 31, .int .i64 30, .int .i64 31, .int .i64 30, .int .i64 31, .int .i64 31, .int .i64 30, .int .i64 31, .int .i64 30, .int .i64 31]) (.int .i64 0)).run Tryd.prog w = .ok (.int .i64 31) w := by kernel_rfl
theorem ix1 (w : World) : (Instr.index 87 (.agg #[.int .i64 31, .int .i64 28, .int .i64 31, .int .i64 30, .int .i64 31, .int .i64 30, .int .i64 31, .int .i64 31, .int .i64 30, .int .i64 31, .int .i64 30, .int .i64 31]) (.int .i64 1)).run Tryd.prog w = .ok (.int .i64 28) w := by kernel_rfl
theorem ix2 (w : World) : (Instr.index 87 (.agg #[.int .i64 31, .int .i64 28, .int .i64 31, .int .i64 30, .int .i64 31, .int .i64 30, .int .i64 31, .int .i64 31, .int .i64 30, .int .i64 31, .int .i64 30, .int .i64 31]) (.int .i64 2)).run Tryd.prog w = .ok (.int .i64 31) w := by kernel_rfl
theorem ix3 (w : World) : (Instr.index 87 (.agg #[.int .i64 31, .int .i64 28, .int .i64 31, .int .i64 30, .int .i64 31, .int .i64 30, .int .i64 31, .int .i64 31, .int .i64 30, .int .i64 31, .int .i64 30, .int .i64 31]) (.int .i64 3)).run Tryd.prog w = .ok (.int .i64 30) w := by kernel_rfl
theorem ix4 (w : World) : (Instr.index 87 (.agg #[.int .i64 31, .int .i64 28, .int .i64 31, .int .i64 30, .int .i64 31, .int .i64 30, .int .i64 31, .int .i64 31, .int .i64 30, .int .i64 31, .int .i64 30, .int .i64 31]) (.int .i64 4)).run Tryd.prog w = .ok (.int .i64 31) w := by kernel_rfl
theorem ix5 (w : World) : (Instr.index 87 (.agg #[.int .i64 31, .int .i64 28, .int .i64 31, .int .i64 30, .int .i64 31, .int .i64 30, .int .i64 31, .int .i64 31, .int .i64 30, .int .i64 31, .int .i64 30, .int .i64 31]) (.int .i64 5)).run Tryd.prog w = .ok (.int .i64 30) w := by kernel_rfl
theorem ix6 (w : World) : (Instr.index 87 (.agg #[.int .i64 31, .int .i64 28, .int .i64 31, .int .i64 30, .int .i64 31, .int .i64 30, .int .i64 31, .int .i64 31, .int .i64 30, .int .i64 31, .int .i64 30, .int .i64 31]) (.int .i64 6)).run Tryd.prog w = .ok (.int .i64 31) w := by kernel_rfl
theorem ix7 (w : World) : (Instr.index 87 (.agg #[.int .i64 31, .int .i64 28, .int .i64 31, .int .i64 30, .int .i64 31, .int .i64 30, .int .i64 31, .int .i64 31, .int .i64 30, .int .i64 31, .int .i64 30, .int .i64 31]) (.int .i64 7)).run Tryd.prog w = .ok (.int .i64 31) w := by kernel_rfl
theorem ix8 (w : World) : (Instr.index 87 (.agg #[.int .i64 31, .int .i64 28, .int .i64 31, .int .i64 30, .int .i64 31, .int .i64 30, .int .i64 31, .int .i64 31, .int .i64 30, .int .i64 31, .int .i64 30, .int .i64 31]) (.int .i64 8)).run Tryd.prog w = .ok (.int .i64 30) w := by kernel_rfl
theorem ix9 (w : World) : (Instr.index 87 (.agg #[.int .i64 31, .int .i64 28, .int .i64 31, .int .i64 30, .int .i64 31, .int .i64 30, .int .i64 31, .int .i64 31, .int .i64 30, .int .i64 31, .int .i64 30, .int .i64 31]) (.int .i64 9)).run Tryd.prog w = .ok (.int .i64 31) w := by kernel_rfl
theorem ix10 (w : World) : (Instr.index 87 (.agg #[.int .i64 31, .int .i64 28, .int .i64 31, .int .i64 30, .int .i64 31, .int .i64 30, .int .i64 31, .int .i64 31, .int .i64 30, .int .i64 31, .int .i64 30, .int .i64 31]) (.int .i64 10)).run Tryd.prog w = .ok (.int .i64 30) w := by kernel_rfl
theorem ix11 (w : World) : (Instr.index 87 (.agg #[.int .i64 31, .int .i64 28, .int .i64 31, .int .i64 30, .int .i64 31, .int .i64 30, .int .i64 31, .int .i64 31, .int .i64 30, .int .i64 31, .int .i64 30, .int .i64 31]) (.int .i64 11)).run Tryd.prog w = .ok (.int .i64 31) w := by kernel_rfl

def mlen (i : Int) : Int := if i = 1 then 28 else if i = 3 ∨ i = 5 ∨ i = 8 ∨ i = 10 then 30 else 31
theorem run_index12 (i : Int) (h1 : 0 ≤ i) (h2 : i < 12) (w : World) :
    (Instr.index 87 (.agg #[.int .i64 31, .int .i64 28, .int .i64 31, .int .i64 30, .int .i64 31, .int .i64 30, .int .i64 31, .int .i64 31, .int .i64 30, .int .i64 31, .int .i64 30, .int .i64 31]) (.int .i64 i)).run Tryd.prog w
     = .ok (.int .i64 (mlen i)) w := by
  have hi : i = 0 ∨ i = 1 ∨ i = 2 ∨ i = 3 ∨ i = 4 ∨ i = 5 ∨ i = 6 ∨ i = 7 ∨ i = 8 ∨ i = 9 ∨ i = 10 ∨ i = 11 := by omega
  rcases hi with rfl | rfl | rfl | rfl | rfl | rfl | rfl | rfl | rfl | rfl | rfl | rfl
  · exact (ix0 w).trans (by simp [mlen])
  · exact (ix1 w).trans (by simp [mlen])
  · exact (ix2 w).trans (by simp [mlen])
  · exact (ix3 w).trans (by simp [mlen])
  · exact (ix4 w).trans (by simp [mlen])
  · exact (ix5 w).trans (by simp [mlen])
  · exact (ix6 w).trans (by simp [mlen])
  · exact (ix7 w).trans (by simp [mlen])
  · exact (ix8 w).trans (by simp [mlen])
  · exact (ix9 w).trans (by simp [mlen])
  · exact (ix10 w).trans (by simp [mlen])
  · exact (ix11 w).trans (by simp [mlen])

set_option maxHeartbeats 400000 in
theorem days_any (y m : Int) (w : World) (h1 : 1 ≤ y) (h2 : y ≤ 20000) :
    Calls Tryd.prog 43 #[.int .i64 y, .int .i64 m] w fun e w' => e = .returned (.int .i64 (Cal.days y m)) ∧ w' = w := by
  by_cases a : m < 1
  · go_enter Tryd.func43, Tryd.ntmps43
    go_wp2
    go_ret
    exact ⟨retInt (by simp [Cal.days, a]), rfl⟩
  by_cases b : 12 < m
  · go_enter Tryd.func43, Tryd.ntmps43
    go_wp2
    go_ret
    exact ⟨retInt (by simp [Cal.days, b]), rfl⟩
  by_cases c : m = 2
  · subst c
    by_cases d : Cal.leap y = true
    · go_enter Tryd.func43, Tryd.ntmps43
      go_wp2_with (go_at_call 52; refine (leap_any _ _ h1 h2).mono ?_; rintro e w' ⟨rfl, rfl⟩)
      go_ret
      exact ⟨retInt (by simp [Cal.days, Cal.lp, d]), rfl⟩
    · have d' : Cal.leap y = false := by simpa using d
      have hx := fun w => ix1 w
      go_enter Tryd.func43, Tryd.ntmps43
      go_wp2_with (go_at_call 52; refine (leap_any _ _ h1 h2).mono ?_; rintro e w' ⟨rfl, rfl⟩)
      go_ret
      exact ⟨retInt (by simp [Cal.days, Cal.lp, d]), rfl⟩
  · have c' : (m == 2) = false := by simpa using c
    have hi : ∀ w, (Instr.index 87 (.agg #[.int .i64 31, .int .i64 28, .int .i64 31, .int .i64 30, .int .i64 31, .int .i64 30, .int .i64 31, .int .i64 31, .int .i64 30, .int .i64 31, .int .i64 30, .int .i64 31]) (.int .i64 (m - 1))).run Tryd.prog w = .ok (.int .i64 (mlen (m - 1))) w := fun w => run_index12 (m - 1) (by omega) (by omega) w
    go_enter Tryd.func43, Tryd.ntmps43
    go_wp2
    go_ret
    refine ⟨retInt ?_, rfl⟩
    unfold Cal.days mlen
    repeat' split
    all_goals omega
def cellInt (w : World) (b o : Nat) : Int := match w.cell? ⟨b, o, none⟩ with | some (.int _ y) => y | _ => 0
def zero6 : Array Value := #[Value.int IntKind.i64 0, Value.int IntKind.i64 0, Value.int IntKind.i64 0, Value.int IntKind.i64 0, Value.int IntKind.i64 0, Value.int IntKind.i64 0]

theorem cellInt_two (w : World) (o1 : Obj) (y : Int) (v1 v2 v3 v4 v5 : Value) (T : TypeId) : cellInt ((w.alloc o1).alloc (.cells #[.int .i64 y, v1, v2, v3, v4, v5] T)) (w.heap.size + 1) 0 = y := by
  unfold cellInt; rw [World.cell?_alloc_at _ _ _ _ (by simp)]; rfl
theorem cellInt_two1 (w : World) (o1 : Obj) (y : Int) (v1 v2 v3 v4 v5 : Value) (T : TypeId) : cellInt ((w.alloc o1).alloc (.cells #[v1, .int .i64 y, v2, v3, v4, v5] T)) (w.heap.size + 1) 1 = y := by
  unfold cellInt; rw [World.cell?_alloc_at _ _ _ _ (by simp)]; rfl

set_option maxHeartbeats 1000000 in
theorem of_any (m n r : Int) (w : World) (h1 : -1035593280 ≤ m) (h2 : m ≤ 4223371679) (hn0 : 0 ≤ n) (hn1 : n < 3652059) (hr0 : 0 ≤ r) (hr1 : r < 1440)
     (hq : (m + 1035593280) / 1440 = n) (hr : (m + 1035593280) % 1440 = r) :
    Calls Tryd.prog 22 #[.int .i64 m] w fun e w' => ∃ y mo d : Int, e = .returned (.tuple #[.agg #[.int .i64 y, .int .i64 mo, .int .i64 d, .int .i64 (r / 60), .int .i64 (r % 60), .int .i64 ((n + 1) % 7)], .int .i64 0]) ∧ Cal.IsDate n y mo d ∧ Below w.heap.size w w' := by
  go_enter Tryd.func22, Tryd.ntmps22
  go_wp2
  have hg := Cal.guess _ hn0 hn1
  simp only [hq, hr]
  clear hq hr
  generalize 400 * (n / 146097) + n % 146097 / 366 + 1 = g at *
  go_loopw [] (fun wr => ∃ y : Int, 1 ≤ y ∧ y ≤ 9999 ∧ Cal.ahead y ≤ n ∧ wr = (w.alloc (.cells #[.int .i64 0, .int .i64 0, .int .i64 0, .int .i64 0, .int .i64 0, .int .i64 0] 49)).alloc
      (.cells #[.int .i64 y, .int .i64 0, .int .i64 0, .int .i64 (r / 60), .int .i64 (r % 60), .int .i64 ((n + 1) % 7)] 49)) (fun wr => (9999 - cellInt wr (w.heap.size + 1) 0).toNat)
  case atStart => exact ⟨g, hg.1, hg.2.1, hg.2.2, rfl⟩
  case round =>
    obtain ⟨y, hy1, hy2, hy3, rfl⟩ := hrel
    by_cases hc : Cal.ahead (y + 1) ≤ n
    · go_wp2_with (go_at_call 42; refine (ahead_any _ _ (by omega) (by omega)).mono ?_; rintro e w' ⟨rfl, rfl⟩)
      have hb : y ≠ 9999 := by intro e; subst e; have := Cal.ahead_last; simp only [Int.reduceAdd] at hc; omega
      go_roundw
      case rel => exact ⟨y + 1, by omega, by omega, hc, rfl⟩
      case measure => rw [cellInt_two, cellInt_two]; omega
    · have hc' : n < Cal.ahead (y + 1) := by omega
      have hlt : n - Cal.ahead y ≤ 365 := by have hs := Cal.ahead_succ y; have hl := Cal.lp_01 y; omega
      go_wp2_with (go_at_call 42; refine (ahead_any _ _ (by omega) (by omega)).mono ?_; rintro e w' ⟨rfl, rfl⟩)
      have hs := Cal.ahead_succ y
      have hl := Cal.lp_01 y
      go_loopw [5] (fun v wr => ∃ mo : Int, 1 ≤ mo ∧ mo ≤ 12 ∧ Cal.cum y mo ≤ n - Cal.ahead y ∧ v = .int .i64 (n - Cal.ahead y - Cal.cum y mo) ∧ wr = (w.alloc (.cells #[.int .i64 0, .int .i64 0, .int .i64 0, .int .i64 0, .int .i64 0, .int .i64 0] 49)).alloc
        (.cells #[.int .i64 y, .int .i64 mo, .int .i64 0, .int .i64 (r / 60), .int .i64 (r % 60), .int .i64 ((n + 1) % 7)] 49)) (fun _ wr => (12 - cellInt wr (w.heap.size + 1) 1).toNat)
      case atStart => exact ⟨1, by omega, by omega, by rw [Cal.cum_one]; omega, by rw [Cal.cum_one]; go_num, rfl⟩
      case round => 
        obtain ⟨mo, hm1, hm2, hm3, rfl, rfl⟩ := hrel
        have hcs := Cal.cum_succ y mo hm1 hm2
        have hce := Cal.cum_end y
        have hdb := Cal.days_bd y mo hm1 hm2
        have hcm := Cal.cum_mono y hm1
        have hc1 := Cal.cum_one y
        have hcm0 : 0 ≤ Cal.cum y mo := by omega
        have HS := Lib.hid hs; have HCS := Lib.hid hcs; have HCE := Lib.hid hce; have HC1 := Lib.hid hc1
        clear hs hcs hce hc1
        by_cases hd : Cal.days y mo ≤ n - Cal.ahead y - Cal.cum y mo
        · go_wp2_with (go_at_call 43; refine (days_any _ _ _ (by omega) (by omega)).mono ?_; rintro e w' ⟨rfl, rfl⟩)
          go_wp2_with (go_at_call 43; refine (days_any _ _ _ (by omega) (by omega)).mono ?_; rintro e w' ⟨rfl, rfl⟩)
          have hb : mo ≠ 12 := by
            intro e; subst e
            have a1 := HS.out; have a2 := HCS.out; have a3 := HCE.out
            simp only [Int.reduceAdd] at a2
            omega
          go_roundw
          case rel => exact ⟨mo + 1, by omega, by omega, by rw [HCS.out]; omega, by rw [HCS.out]; exact congrArg (Value.int .i64) (by omega), rfl⟩
          case measure => rw [cellInt_two1, cellInt_two1]; omega
        · have hd' : n - Cal.ahead y - Cal.cum y mo < Cal.days y mo := by omega
          clear hd
          go_wp2_with (go_at_call 43; refine (days_any _ _ _ (by omega) (by omega)).mono ?_; rintro e w' ⟨rfl, rfl⟩)
          refine bodyPost_ret (v := .tuple #[.agg #[.int .i64 y, .int .i64 mo, .int .i64 (n - Cal.ahead y - Cal.cum y mo + 1), .int .i64 (r / 60), .int .i64 (r % 60), .int .i64 ((n + 1) % 7)], .int .i64 0]) (by simp [results, Tryd.results22, go_sem]) rfl ⟨y, mo, _, rfl, ⟨hy1, hy3, hc', hm1, hm2, hm3, by rw [HCS.out]; omega, rfl⟩, ?_⟩
          exact ((Below.refl _ _).alloc (Nat.le_refl _) _).alloc (by simp) _
end Go.Proofs.YtdmchgmcbnjelaaDoor

