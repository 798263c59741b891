/- Walks: the first minute of a day; whether a day fits. -/
import Derived.Test.YtdmchgmcbnjelaaDoorEarly
namespace Go.Proofs.YtdmchgmcbnjelaaDoor
open Go.RowKit

theorem fits_end (E : Ex) (month day weekday : Int) (r : Bool) (w : World) (e : Ending) (w' : World) (he : e = .returned (.bool r)) (hr : r = dayB E month day weekday) (hb : Below w.heap.size w w') :
    e = .returned (.bool (dayB E month day weekday)) ∧ Below w.heap.size w w' := ⟨by rw [he, hr], hb⟩

theorem below_drewN' {B : Nat} {a w : World} (h : Below B a w) (n : Nat) : Below B a (w.drewN n) := ⟨h.os, h.tape, h.output, h.size, h.block⟩

set_option maxHeartbeats 1000000 in
theorem fits_any (E : Ex) (hE : E.Ok) (year month day hour minute weekday : Int) (w : World) (h0 : 0 ≤ month) (h1 : month < 60) (h2 : 0 ≤ day) (h3 : day < 60) (h4 : 0 ≤ weekday) (h5 : weekday < 60) :
    Calls Tryd.prog 25 #[.agg #[.int .u64 E.mi, .int .u64 E.ho, .int .u64 E.da, .int .u64 E.mo, .int .u64 E.we, .bool E.ad, .bool E.aw],
      .agg #[.int .i64 year, .int .i64 month, .int .i64 day, .int .i64 hour, .int .i64 minute, .int .i64 weekday]] w fun e w' => e = .returned (.bool (dayB E month day weekday)) ∧ Below w.heap.size w w' := by
  obtain ⟨mi, ho, da, mo, we, ad, aw⟩ := E
  obtain ⟨o1, o2, o3, o4, o5⟩ := hE
  simp only at *
  have e1 := shr_bit da day (by omega)
  have e2 := shr_bit we weekday (by omega)
  have e3 := shr_bit0 mo month (by omega)
  have B : ∀ o o' n, Below w.heap.size w (((w.alloc o).alloc o').drewN n) := fun o o' n => below_drewN' (((Below.refl _ _).alloc (Nat.le_refl _) _).alloc (by simp) _) n
  cases ad <;> cases aw
  all_goals
    go_enter Tryd.func25, Tryd.ntmps25
    go_wp2
    go_quiet (fail)
    go_wp2
    all_goals
      go_ret
      refine ⟨retBool ?_, B _ _ _⟩
      simp_all [dayB]

structure Tab (w : World) : Prop where
  size : 3 < w.heap.size
  tab : TabAt 2 Lib.deBruijn64tab w

theorem Tab.below {w w' : World} (h : Tab w) (hb : Below w.heap.size w w') : Tab w' :=
  ⟨Nat.lt_of_lt_of_le h.size hb.size, fun j hj => by have h3 := h.size; rw [hb.cell (p := ⟨2, j, none⟩) (show 2 < w.heap.size by omega)]; exact h.tab j hj⟩
theorem Tab.alloc {w : World} (h : Tab w) (o : Obj) : Tab (w.alloc o) := h.below ((Below.refl _ _).alloc (Nat.le_refl _) _)
theorem Tab.drewN {w : World} (h : Tab w) (n : Nat) : Tab (w.drewN n) := h.below (below_drewN' (Below.refl _ _) n)

def EarlyTells (E : Ex) (f : Int) (w : World) (e : Ending) (w' : World) : Prop := ∃ r : Int, e = .returned (.int .i64 r) ∧ EarlyIs E f r ∧ Below w.heap.size w w'

theorem earlyTells_mk {E : Ex} {f r : Int} {w : World} (o : Obj) (n : Nat) (h : EarlyIs E f r) : EarlyTells E f w (.returned (.int .i64 r)) ((w.alloc o).drewN n) :=
  ⟨r, rfl, h, below_drewN' ((Below.refl _ _).alloc (Nat.le_refl _) _) n⟩

set_option maxHeartbeats 1000000 in
theorem early_any (E : Ex) (hE : E.Ok) (f : Int) (w : World) (h0 : 0 ≤ f) (h1 : f < 1440) (hT : Tab w) :
    Calls Tryd.prog 23 #[.agg #[.int .u64 E.mi, .int .u64 E.ho, .int .u64 E.da, .int .u64 E.mo, .int .u64 E.we, .bool E.ad, .bool E.aw], .int .i64 f] w (EarlyTells E f w) := by
  obtain ⟨mi, ho, da, mo, we, ad, aw⟩ := E
  obtain ⟨o1, o2, o3, o4, o5⟩ := hE
  simp only at *
  have e1 := and_span mi 59 (by simpa using o1) (by omega)
  have e2 := and_span ho 23 (by simpa using o2) (by omega)
  have HT := Lib.hid hT
  clear hT
  go_enter Tryd.func23, Tryd.ntmps23
  go_wp2_with fail
  go_quiet ((go_at_call 39; exact Calls.quiet_of (span_any _ _ _ (by omega) (by omega) (by omega))))
  go_wp2_with fail
  refine (first_any ho (f / 60) _ (by omega) (by omega) (by omega) ((HT.out.alloc _).drewN _).tab).mono ?_
  rintro e w1 ⟨h, rfl, hF, rfl⟩
  have hlt := firstIs_lt 24 hF (by simpa using o2)
  have hge : -1 ≤ h := by rcases hF with ⟨q, _⟩ | ⟨q, _⟩ <;> omega
  by_cases c : h = f / 60
  · subst c
    go_wp2_with fail
    refine (first_any mi (f % 60) _ (by omega) (by omega) (by omega) ((HT.out.alloc _).drewN _).tab).mono ?_
    rintro e w2 ⟨m, rfl, hM, rfl⟩
    have hm60 := firstIs_lt 60 hM (by simpa using o1)
    by_cases d : 0 ≤ m
    · go_wp2_with fail
      go_ret
      exact earlyTells_mk _ _ (early_hit ⟨mi, ho, da, mo, we, ad, aw⟩ f m h0 h1 (first_eq ho _ (by omega) hF) hM d)
    · have hm : m = -1 := by rcases hM with ⟨q, _⟩ | ⟨q, _⟩ <;> omega
      subst hm
      have hno := Lib.hid (hno_miss ⟨mi, ho, da, mo, we, ad, aw⟩ f hM)
      go_wp2_with fail
      refine (first_any ho (f / 60 + 1) _ (by omega) (by omega) (by omega) ((HT.out.alloc _).drewN _).tab).mono ?_
      rintro e w2 ⟨h, rfl, hF', rfl⟩
      have hlt' := firstIs_lt 24 hF' (by simpa using o2)
      go_wp2_with fail
      refine (first_any mi 0 _ (by omega) (by omega) (by omega) ((HT.out.alloc _).drewN _).tab).mono ?_
      rintro e w2 ⟨m, rfl, hM', rfl⟩
      have hm60' := firstIs_lt 60 hM' (by simpa using o1)
      have hL := early_later ⟨mi, ho, da, mo, we, ad, aw⟩ f h m h0 h1 o2 hno.out hF' hM'
      have HL := Lib.hid hL
      clear hL
      by_cases q1 : h < 0
      · go_wp2_with fail
        go_ret
        exact earlyTells_mk _ _ (HL.out.1 (Or.inl q1))
      · by_cases q2 : m < 0
        · go_wp2_with fail
          go_ret
          exact earlyTells_mk _ _ (HL.out.1 (Or.inr q2))
        · go_wp2_with fail
          go_ret
          exact earlyTells_mk _ _ (HL.out.2 (by omega) (by omega))
  · have c' : (h == f / 60) = false := by simpa using c
    have hno := Lib.hid (hno_hour ⟨mi, ho, da, mo, we, ad, aw⟩ f (first_ne ho _ _ (by omega) hF c).2)
    have hF' := (first_ne ho _ _ (by omega) hF c).1
    clear c
    go_wp2_with fail
    refine (first_any mi 0 _ (by omega) (by omega) (by omega) ((HT.out.alloc _).drewN _).tab).mono ?_
    rintro e w2 ⟨m, rfl, hM', rfl⟩
    have hm60' := firstIs_lt 60 hM' (by simpa using o1)
    have hL := early_later ⟨mi, ho, da, mo, we, ad, aw⟩ f h m h0 h1 o2 hno.out hF' hM'
    have HL := Lib.hid hL
    clear hL
    by_cases q1 : h < 0
    · go_wp2_with fail
      go_ret
      exact earlyTells_mk _ _ (HL.out.1 (Or.inl q1))
    · by_cases q2 : m < 0
      · go_wp2_with fail
        go_ret
        exact earlyTells_mk _ _ (HL.out.1 (Or.inr q2))
      · go_wp2_with fail
        go_ret
        exact earlyTells_mk _ _ (HL.out.2 (by omega) (by omega))
end Go.Proofs.YtdmchgmcbnjelaaDoor
