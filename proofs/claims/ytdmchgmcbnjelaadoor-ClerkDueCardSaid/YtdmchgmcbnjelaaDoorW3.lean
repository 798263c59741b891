/- Walks: what an expression says of a day and a minute. -/
import Derived.Test.YtdmchgmcbnjelaaDoorW2
import Derived.Test.YtdmchgmcbnjelaaDoorBits
import Derived.Test.YtdmchgmcbnjelaaDoorShelf
namespace Go.Proofs.YtdmchgmcbnjelaaDoor
open Go.RowKit

/-- an expression: what is allowed -/
structure Ex where
  mi : Nat
  ho : Nat
  da : Nat
  mo : Nat
  we : Nat
  ad : Bool
  aw : Bool
structure Ex.Ok (E : Ex) : Prop where
  mi : E.mi < 1152921504606846976
  ho : E.ho < 16777216
  da : E.da < 4294967296
  mo : E.mo < 8192
  we : E.we < 128

def dayB (E : Ex) (month day weekday : Int) : Bool :=
  if tb E.mo month then (if E.ad then (if E.aw then true else tb E.we weekday) else if E.aw then tb E.da day else tb E.da day || tb E.we weekday) else false

def Match (E : Ex) (m : Int) : Prop :=
  -1035593280 ≤ m ∧ m ≤ 4223371679 ∧ ∃ y mo d : Int, Cal.IsDate ((m + 1035593280) / 1440) y mo d ∧ dayB E mo d (((m + 1035593280) / 1440 + 1) % 7) = true
    ∧ tb E.ho ((m + 1035593280) % 1440 / 60) = true ∧ tb E.mi ((m + 1035593280) % 1440 % 60) = true

set_option maxHeartbeats 400000 in
theorem has0 (F0 : Nat) (F1 F2 F3 F4 n : Int) (a b : Bool) (w : World) (h0 : 0 ≤ n) (h1 : n < 60) (hX : F0 < 1152921504606846976) :
    Calls Tryd.prog 16 #[.agg #[.int .u64 F0, .int .u64 F1, .int .u64 F2, .int .u64 F3, .int .u64 F4, .bool a, .bool b], .int .i64 0, .int .i64 n] w fun e w' => e = .returned (.bool (tb F0 n)) ∧ Below w.heap.size w w' := by
  go_enter Tryd.func16, Tryd.ntmps16
  go_wp2
  go_ret
  exact ⟨retBool (shr_bit F0 n hX), (Below.refl _ _).alloc (Nat.le_refl _) _⟩
set_option maxHeartbeats 400000 in
theorem has1 (F1 : Nat) (F0 F2 F3 F4 n : Int) (a b : Bool) (w : World) (h0 : 0 ≤ n) (h1 : n < 60) (hX : F1 < 1152921504606846976) :
    Calls Tryd.prog 16 #[.agg #[.int .u64 F0, .int .u64 F1, .int .u64 F2, .int .u64 F3, .int .u64 F4, .bool a, .bool b], .int .i64 1, .int .i64 n] w fun e w' => e = .returned (.bool (tb F1 n)) ∧ Below w.heap.size w w' := by
  go_enter Tryd.func16, Tryd.ntmps16
  go_wp2
  go_ret
  exact ⟨retBool (shr_bit F1 n hX), (Below.refl _ _).alloc (Nat.le_refl _) _⟩
set_option maxHeartbeats 400000 in
theorem has2 (F2 : Nat) (F0 F1 F3 F4 n : Int) (a b : Bool) (w : World) (h0 : 0 ≤ n) (h1 : n < 60) (hX : F2 < 1152921504606846976) :
    Calls Tryd.prog 16 #[.agg #[.int .u64 F0, .int .u64 F1, .int .u64 F2, .int .u64 F3, .int .u64 F4, .bool a, .bool b], .int .i64 2, .int .i64 n] w fun e w' => e = .returned (.bool (tb F2 n)) ∧ Below w.heap.size w w' := by
  go_enter Tryd.func16, Tryd.ntmps16
  go_wp2
  go_ret
  exact ⟨retBool (shr_bit F2 n hX), (Below.refl _ _).alloc (Nat.le_refl _) _⟩
set_option maxHeartbeats 400000 in
theorem has3 (F3 : Nat) (F0 F1 F2 F4 n : Int) (a b : Bool) (w : World) (h0 : 0 ≤ n) (h1 : n < 60) (hX : F3 < 1152921504606846976) :
    Calls Tryd.prog 16 #[.agg #[.int .u64 F0, .int .u64 F1, .int .u64 F2, .int .u64 F3, .int .u64 F4, .bool a, .bool b], .int .i64 3, .int .i64 n] w fun e w' => e = .returned (.bool (tb F3 n)) ∧ Below w.heap.size w w' := by
  go_enter Tryd.func16, Tryd.ntmps16
  go_wp2
  go_ret
  exact ⟨retBool (shr_bit F3 n hX), (Below.refl _ _).alloc (Nat.le_refl _) _⟩
set_option maxHeartbeats 400000 in
theorem has4 (F4 : Nat) (F0 F1 F2 F3 n : Int) (a b : Bool) (w : World) (h0 : 0 ≤ n) (h1 : n < 60) (hX : F4 < 1152921504606846976) :
    Calls Tryd.prog 16 #[.agg #[.int .u64 F0, .int .u64 F1, .int .u64 F2, .int .u64 F3, .int .u64 F4, .bool a, .bool b], .int .i64 4, .int .i64 n] w fun e w' => e = .returned (.bool (tb F4 n)) ∧ Below w.heap.size w w' := by
  go_enter Tryd.func16, Tryd.ntmps16
  go_wp2
  go_ret
  exact ⟨retBool (shr_bit F4 n hX), (Below.refl _ _).alloc (Nat.le_refl _) _⟩

theorem bcell {W w1 : World} (hb : Below W.heap.size W w1) : (∀ b o, b < W.heap.size → w1.cell? ⟨b, o, none⟩ = W.cell? ⟨b, o, none⟩) ∧ (∀ b o, b < W.heap.size → w1.frozen? ⟨b, o, none⟩ = W.frozen? ⟨b, o, none⟩) :=
  ⟨fun b o h => hb.cell (p := ⟨b, o, none⟩) h, fun b o h => hb.frozen (p := ⟨b, o, none⟩) h⟩

set_option maxHeartbeats 1000000 in
theorem rday_any (E : Ex) (hE : E.Ok) (month day weekday : Int) (w : World) (h0 : 0 ≤ month) (h1 : month < 60) (h2 : 0 ≤ day) (h3 : day < 60) (h4 : 0 ≤ weekday) (h5 : weekday < 60) :
    Calls Tryd.prog 17 #[.agg #[.int .u64 E.mi, .int .u64 E.ho, .int .u64 E.da, .int .u64 E.mo, .int .u64 E.we, .bool E.ad, .bool E.aw], .int .i64 month, .int .i64 day, .int .i64 weekday] w fun e w' => e = .returned (.bool (dayB E month day weekday)) ∧ Below w.heap.size w w' := by
  obtain ⟨mi, ho, da, mo, we, ad, aw⟩ := E
  obtain ⟨o1, o2, o3, o4, o5⟩ := hE
  simp only at *
  go_enter Tryd.func17, Tryd.ntmps17
  go_wp2_with fail
  refine (has3 mo _ _ _ _ month _ _ _ h0 h1 (by omega)).mono ?_
  rintro e w1 ⟨rfl, hb1⟩
  obtain ⟨hc, hf⟩ := bcell hb1
  have B1 : Below w.heap.size w _ := ((Below.refl w.heap.size w).alloc (Nat.le_refl _) _).trans (hb1.mono (by simp))
  cases ad <;> cases aw
  · go_wp2_with fail
    · go_ret
      exact ⟨retBool (by simp_all [dayB]), B1⟩
    · refine (has2 da _ _ _ _ day _ _ _ h2 h3 (by omega)).mono ?_
      rintro e w2 ⟨rfl, hb2⟩
      obtain ⟨hc2, hf2⟩ := bcell hb2
      have hz : w.heap.size < w1.heap.size := by have := hb1.size; simp at this; omega
      have B2 : Below w.heap.size w _ := B1.trans (hb2.mono (by omega))
      go_wp2_with fail
      · go_ret
        exact ⟨retBool (by simp_all [dayB]), B2⟩
      · refine (has4 we _ _ _ _ weekday _ _ _ h4 h5 (by omega)).mono ?_
        rintro e w3 ⟨rfl, hb3⟩
        go_wp2_with fail
        go_ret
        exact ⟨retBool (by simp_all [dayB]), B2.trans (hb3.mono (by have := hb2.size; omega))⟩
  · go_wp2_with fail
    · go_ret
      exact ⟨retBool (by simp_all [dayB]), B1⟩
    · refine (has2 da _ _ _ _ day _ _ _ h2 h3 (by omega)).mono ?_
      rintro e w2 ⟨rfl, hb2⟩
      go_wp2_with fail
      go_ret
      exact ⟨retBool (by simp_all [dayB]), B1.trans (hb2.mono (by have := hb1.size; simp at this; omega))⟩
  · go_wp2_with fail
    · go_ret
      exact ⟨retBool (by simp_all [dayB]), B1⟩
    · refine (has4 we _ _ _ _ weekday _ _ _ h4 h5 (by omega)).mono ?_
      rintro e w2 ⟨rfl, hb2⟩
      go_wp2_with fail
      go_ret
      exact ⟨retBool (by simp_all [dayB]), B1.trans (hb2.mono (by have := hb1.size; simp at this; omega))⟩
  · go_wp2_with fail
    · go_ret
      exact ⟨retBool (by simp_all [dayB]), B1⟩
    · go_ret
      exact ⟨retBool (by simp_all [dayB]), B1⟩

theorem match_err {E : Ex} {m : Int} (h : 4223371679 < m) : ¬ Match E m := fun k => by have := k.2.1; omega
theorem match_iff {E : Ex} {m n r y mo d : Int} (hm : m + 1035593280 = 1440 * n + r) (hr0 : 0 ≤ r) (hr1 : r < 1440) (hn0 : 0 ≤ n) (hn1 : n < 3652059) (hD : Cal.IsDate n y mo d) :
    Match E m ↔ (tb E.mi (r % 60) && tb E.ho (r / 60) && dayB E mo d ((n + 1) % 7)) = true := by
  have e1 : (m + 1035593280) / 1440 = n := by omega
  have e2 : (m + 1035593280) % 1440 = r := by omega
  unfold Match
  rw [e1, e2]
  simp only [Bool.and_eq_true]
  constructor
  · rintro ⟨_, _, y', mo', d', k, k1, k2, k3⟩
    obtain ⟨rfl, rfl, rfl⟩ := hD.uniq k
    exact ⟨⟨k3, k2⟩, k1⟩
  · rintro ⟨⟨k3, k2⟩, k1⟩
    exact ⟨by omega, by omega, y, mo, d, hD, k1, k2, k3⟩

/-- a bool that says whether -/
def Tells (p : Prop) (w : World) (e : Ending) (w' : World) : Prop := ∃ b : Bool, e = .returned (.bool b) ∧ (b = true ↔ p) ∧ Below w.heap.size w w'

set_option maxHeartbeats 1000000 in
theorem matches_any (E : Ex) (hE : E.Ok) (m : Int) (w : World) (h0 : 0 ≤ m) (h1 : m ≤ 1099511627776) :
    Calls Tryd.prog 8 #[.agg #[.int .u64 E.mi, .int .u64 E.ho, .int .u64 E.da, .int .u64 E.mo, .int .u64 E.we, .bool E.ad, .bool E.aw], .int .i64 m] w (Tells (Match E m) w) := by
  by_cases h : 4223371679 < m
  · go_enter Tryd.func8, Tryd.ntmps8
    go_wp2_with fail
    refine (rof_err m _ h0 h h1).mono ?_
    rintro e w1 ⟨rfl, hb1⟩
    obtain ⟨hc, hf⟩ := bcell hb1
    have hz : w.heap.size < w1.heap.size := by have := hb1.size; simp at this; omega
    go_wp2_with fail
    go_ret
    refine ⟨false, rfl, by simp [match_err h], ?_⟩
    exact (((Below.refl _ _).alloc (Nat.le_refl _) _).trans (hb1.mono (by simp))).alloc (by omega) _
  · obtain ⟨n, hn⟩ : ∃ n, n = m / 1440 + 719162 := ⟨_, rfl⟩
    obtain ⟨r, hr⟩ : ∃ r, r = m % 1440 := ⟨_, rfl⟩
    have hn0 : 0 ≤ n := by omega
    have hn1 : n < 3652059 := by omega
    have hr0 : 0 ≤ r := by omega
    have hr1 : r < 1440 := by omega
    have hm : m + 1035593280 = 1440 * n + r := by omega
    have HM := fun y mo d => match_iff (E := E) (y := y) (mo := mo) (d := d) hm hr0 hr1 hn0 hn1
    have HR := fun w => rof_any m n r w h0 (by omega) hn0 hn1 hr0 hr1 (by omega) (by omega)
    have HRR := Lib.hid HR
    have HMM := Lib.hid HM
    clear HR HM hm hn hr
    obtain ⟨mi, ho, da, mon, we, ad, aw⟩ := E
    have hE' := Lib.hid hE
    obtain ⟨o1, o2, o3, o4, o5⟩ := hE
    simp only at *
    go_enter Tryd.func8, Tryd.ntmps8
    go_wp2_with fail
    refine (HRR.out _).mono ?_
    rintro e w1 ⟨y, mo, d, rfl, hD, hb1⟩
    have hM := HMM.out y mo d hD
    have hMM := Lib.hid hM
    have bd := hD.bounds
    have m1 := hD.m1
    have m2 := hD.m2
    have hDD := Lib.hid hD
    clear HMM hM hD
    obtain ⟨hc, hf⟩ := bcell hb1
    have hz : w.heap.size < w1.heap.size := by have := hb1.size; simp at this; omega
    go_wp2_with fail
    have B1 : Below w.heap.size w w1 := ((Below.refl w.heap.size w).alloc (Nat.le_refl _) _).trans (hb1.mono (by simp))
    have B1' : ∀ o, Below w.heap.size w (w1.alloc o) := fun o => B1.alloc (by omega) o
    refine (has0 mi _ _ _ _ (r % 60) _ _ _ (by omega) (by omega) o1).mono ?_
    rintro e w2 ⟨rfl, hb2⟩
    obtain ⟨hc2, hf2⟩ := bcell hb2
    have hz2 : w1.heap.size < w2.heap.size := by have := hb2.size; simp at this; omega
    have B2 : Below w.heap.size w w2 := (B1' _).trans (hb2.mono (by simp; omega))
    go_wp2_with fail
    rotate_left
    · go_wp2_with fail
      go_ret
      exact ⟨_, rfl, by rw [hMM.out]; simp_all, B2⟩
    refine (has1 ho _ _ _ _ (r / 60) _ _ _ (by omega) (by omega) (by omega)).mono ?_
    rintro e w3 ⟨rfl, hb3⟩
    obtain ⟨hc3, hf3⟩ := bcell hb3
    have hz3 : w2.heap.size ≤ w3.heap.size := hb3.size
    have hz4 : w.heap.size < w2.heap.size := by omega
    have hz5 : w1.heap.size < w3.heap.size := by omega
    have hz6 : w.heap.size < w3.heap.size := by omega
    have B3 : Below w.heap.size w w3 := B2.trans (hb3.mono (by omega))
    go_wp2_with fail
    rotate_left
    · go_wp2_with fail
      go_ret
      exact ⟨_, rfl, by rw [hMM.out]; simp_all, B3⟩
    refine (rday_any ⟨mi, ho, da, mon, we, ad, aw⟩ hE'.out mo d ((n + 1) % 7) _ (by omega) (by omega) (by omega) (by omega) (by omega) (by omega)).mono ?_
    rintro e w4 ⟨rfl, hb4⟩
    have B4 : Below w.heap.size w w4 := B3.trans (hb4.mono (by omega))
    go_wp2_with fail
    go_ret
    exact ⟨_, rfl, by rw [hMM.out]; simp_all, B4⟩
end Go.Proofs.YtdmchgmcbnjelaaDoor
