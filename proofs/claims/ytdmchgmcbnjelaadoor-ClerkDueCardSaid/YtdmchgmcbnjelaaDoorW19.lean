/- Walks: the minute that is due, both sides. -/
import Derived.Test.YtdmchgmcbnjelaaDoorW18
namespace Go.Proofs.YtdmchgmcbnjelaaDoor
open Go.RowKit

/-- the first match behind 'after', up to 'now' -/
def Due0 (E : Ex) (after now n : Int) (b : Bool) : Prop :=
  (b = true ∧ after < n ∧ n ≤ now ∧ Match E n ∧ ∀ k : Int, after < k → k < n → ¬ Match E k) ∨ (b = false ∧ n = 0 ∧ ∀ k : Int, after < k → k ≤ now → ¬ Match E k)

theorem Due0.uniq {E : Ex} {after now n n' : Int} {b b' : Bool} (h : Due0 E after now n b) (k : Due0 E after now n' b') : n = n' ∧ b = b' := by
  rcases h with ⟨rfl, h1, h2, h3, h4⟩ | ⟨rfl, rfl, h3⟩ <;> rcases k with ⟨rfl, k1, k2, k3, k4⟩ | ⟨rfl, rfl, k3'⟩
  · rcases Int.lt_trichotomy n n' with c | c | c
    · exact absurd h3 (k4 n h1 c)
    · exact ⟨c, rfl⟩
    · exact absurd k3 (h4 n' k1 c)
  · exact absurd h3 (k3' n h1 h2)
  · exact absurd k3 (h3 n' k1 k2)
  · exact ⟨rfl, rfl⟩

theorem nextIs_due {E : Ex} {A n c now after : Int} (hN : NextIs E A n c) (hA : A = after) (hH : now ≤ after + 4216320) :
    (c = 0 ∧ n ≤ now ∧ Due0 E after now n true) ∨ ((c ≠ 0 ∨ (c = 0 ∧ now < n)) ∧ Due0 E after now 0 false) := by
  subst hA
  rcases hN with ⟨rfl, h1, h2, h3, h4⟩ | ⟨h1, rfl, h3⟩
  · by_cases q : n ≤ now
    · exact Or.inl ⟨rfl, q, Or.inl ⟨rfl, h1, q, h3, h4⟩⟩
    · exact Or.inr ⟨Or.inr ⟨rfl, by omega⟩, Or.inr ⟨rfl, rfl, fun k k1 k2 => h4 k k1 (by omega)⟩⟩
  · exact Or.inr ⟨Or.inl h1, Or.inr ⟨rfl, rfl, fun k k1 k2 => h3 k k1 (by omega)⟩⟩

structure Job where
  name : ByteArray
  cron : ByteArray
  po : Int
  de : Int
  ke : Int
  su : Bool
def Job.fine (j : Job) (now : Int) : Prop := chkC j.name j.cron j.po j.de j.ke = 0 ∧ j.su = false ∧ 0 ≤ now
def afterOf (j : Job) (last now : Int) : Int := max last (max (now - j.de - 1) (-1))
def DueP (j : Job) (last now n : Int) (b : Bool) : Prop :=
  (j.fine now ∧ ∃ E, parseE j.cron.data.toList = some E ∧ E.Ok ∧ j.cron.size ≤ 100 ∧ 1 ≤ j.de ∧ j.de ≤ 10080 ∧ Due0 E (afterOf j last now) now n b) ∨ (¬ j.fine now ∧ n = 0 ∧ b = false)

theorem DueP.uniq {j : Job} {last now n n' : Int} {b b' : Bool} (h : DueP j last now n b) (k : DueP j last now n' b') : n = n' ∧ b = b' := by
  rcases h with ⟨h0, E, hE, _, _, _, _, h1⟩ | ⟨h0, rfl, rfl⟩ <;> rcases k with ⟨k0, E', kE, _, _, _, _, k1⟩ | ⟨k0, rfl, rfl⟩
  · rw [hE] at kE
    obtain rfl := Option.some.inj kE
    exact h1.uniq k1
  · exact absurd h0 k0
  · exact absurd k0 h0
  · exact ⟨rfl, rfl⟩

theorem chk_ok {name cron : ByteArray} {po de ke : Int} (h : chkC name cron po de ke = 0) : parseC cron = 0 ∧ 1 ≤ de ∧ de ≤ 10080 := by
  unfold chkC at h
  split at h
  · rename_i q; exact ⟨h, q.2.2.2.1, q.2.2.2.2.1⟩
  · omega

theorem parseC_ok {s : ByteArray} (h : parseC s = 0) : s.size ≤ 100 ∧ (parseE s.data.toList).isSome = true := by
  unfold parseC at h
  split at h
  · omega
  · split at h
    · rename_i q; exact ⟨by omega, q⟩
    · omega

def DueTells (j : Job) (last now : Int) (w : World) (e : Ending) (w' : World) : Prop :=
  ∃ (n : Int) (b : Bool), e = .returned (.tuple #[.int .i64 n, .bool b]) ∧ DueP j last now n b ∧ Below w.heap.size w w'

set_option maxHeartbeats 1000000 in
set_option maxRecDepth 100000 in
theorem due_any (j : Job) (last now : Int) (w : World) (hn : j.name.size ≤ 1000) (hc : j.cron.size ≤ 1000) (hnow : now ≤ 1099511627776) (hG : Glob w) :
    Calls Tryd.prog 5 #[.agg #[.string j.name, .string j.cron, .int .i64 j.po, .int .i64 j.de, .int .i64 j.ke, .bool j.su], .int .i64 last, .int .i64 now] w (DueTells j last now w) := by
  have HG := Lib.hid hG
  clear hG
  have NO : ∀ w', ¬ j.fine now → Below w.heap.size w w' → DueTells j last now w (.returned (.tuple #[.int .i64 0, .bool false])) w' := fun w' h hb => ⟨0, false, rfl, Or.inr ⟨h, rfl, rfl⟩, hb⟩
  have HNO := Lib.hid NO
  clear NO
  obtain ⟨name, cron, po, de, ke, su⟩ := j
  simp only at *
  by_cases hchk : chkC name cron po de ke = 0
  · obtain ⟨hp, hd1, hd2⟩ := chk_ok hchk
    have HCHK := Lib.hid hchk
    clear hchk
    cases su
    · by_cases hneg : now < 0
      · have hnf := Lib.hid (show ¬ Job.fine ⟨name, cron, po, de, ke, false⟩ now from fun h => by have := h.2.2; omega)
        go_enter Tryd.func5, Tryd.ntmps5
        go_wp2_with fail
        refine (check_any name cron po de ke false _ hn hc (HG.out.alloc _)).mono ?_
        rintro e w1 ⟨rfl, hb1⟩
        rw [HCHK.out]
        have B1 : Below w.heap.size w w1 := ((Below.refl w.heap.size w).alloc (Nat.le_refl _) _).trans (hb1.mono (by simp))
        obtain ⟨hcc, hff⟩ := bcell hb1
        go_wp2_with fail
        go_ret2
        exact HNO.out _ hnf.out B1
      · obtain ⟨hp1, hp2⟩ := parseC_ok hp
        have HP2 := Lib.hid hp2
        have HFINE := Lib.hid (show Job.fine ⟨name, cron, po, de, ke, false⟩ now from ⟨HCHK.out, rfl, by omega⟩)
        clear hp hp2
        go_enter Tryd.func5, Tryd.ntmps5
        go_wp2_with fail
        refine (check_any name cron po de ke false _ hn hc (HG.out.alloc _)).mono ?_
        rintro e w1 ⟨rfl, hb1⟩
        rw [HCHK.out]
        have B1 : Below w.heap.size w w1 := ((Below.refl w.heap.size w).alloc (Nat.le_refl _) _).trans (hb1.mono (by simp))
        have hz1 : w.heap.size < w1.heap.size := by have := hb1.size; simp at this; omega
        obtain ⟨hcc, hff⟩ := bcell hb1
        go_wp2_with fail
        refine (parse_any cron _ hc (HG.out.below B1)).mono ?_
        rintro e w2 ⟨hb2, h⟩
        have B2 : Below w.heap.size w w2 := B1.trans (hb2.mono (by omega))
        have hz2 := hb2.size
        have hz3 : w.heap.size < w2.heap.size := by omega
        obtain ⟨hcc2, hff2⟩ := bcell hb2
        obtain ⟨E, hE, hok, rfl⟩ : ∃ E : Ex, parseE cron.data.toList = some E ∧ E.Ok ∧ e = .returned (.tuple #[.agg #[.int .u64 E.mi, .int .u64 E.ho, .int .u64 E.da, .int .u64 E.mo, .int .u64 E.we, .bool E.ad, .bool E.aw], .int .i64 0]) := by
          rcases h with ⟨h, _⟩ | ⟨h, h', _⟩ | ⟨E, h, h', h'', h3⟩
          · omega
          · have := HP2.out; rw [h'] at this; exact absurd this (by simp)
          · exact ⟨E, h', h'', h3⟩
        have HE := Lib.hid hE
        have HOK := Lib.hid hok
        clear h hE hok
        have GB : Tab (w2.alloc (.cells #[.int .u64 E.mi, .int .u64 E.ho, .int .u64 E.da, .int .u64 E.mo, .int .u64 E.we, .bool E.ad, .bool E.aw] 38)) := (HG.out.below (B2.alloc (by omega) _)).toTab
        have HGB := Lib.hid GB
        clear GB
        have FIN : ∀ n b w', Due0 E (afterOf ⟨name, cron, po, de, ke, false⟩ last now) now n b → Below w.heap.size w w' → DueTells ⟨name, cron, po, de, ke, false⟩ last now w (.returned (.tuple #[.int .i64 n, .bool b])) w' :=
          fun n b w' h hb => ⟨n, b, rfl, Or.inl ⟨HFINE.out, E, HE.out, HOK.out, hp1, hd1, hd2, h⟩, hb⟩
        have HFIN := Lib.hid FIN
        clear FIN
        go_wp2_with fail
        all_goals
          refine (next_any E HOK.out _ _ (by omega) HGB.out).mono ?_
          rintro e w3 ⟨n, c, rfl, hN, hb3⟩
          have B3 : Below w.heap.size w w3 := (B2.alloc (by omega) _).trans (hb3.mono (by rw [World.size_alloc]; omega))
          have hD := nextIs_due (now := now) (after := afterOf ⟨name, cron, po, de, ke, false⟩ last now) hN (by unfold afterOf; simp only; omega) (by unfold afterOf; simp only; omega)
          clear hN hb3
          rcases hD with ⟨hc0, hle, hD⟩ | ⟨hc0 | ⟨hc0, hlt⟩, hD⟩
          · subst hc0
            have HD := Lib.hid hD
            clear hD
            go_wp2_with fail
            go_ret2
            exact HFIN.out _ _ _ HD.out B3
          · have hc1 : (c != 0) = true := by simp; exact hc0
            have HD := Lib.hid hD
            clear hD hc0
            go_wp2_with fail
            go_ret2
            exact HFIN.out _ _ _ HD.out B3
          · subst hc0
            have HD := Lib.hid hD
            clear hD
            go_wp2_with fail
            go_ret2
            exact HFIN.out _ _ _ HD.out B3
    · have hnf := Lib.hid (show ¬ Job.fine ⟨name, cron, po, de, ke, true⟩ now from fun h => by have := h.2.1; simp at this)
      go_enter Tryd.func5, Tryd.ntmps5
      go_wp2_with fail
      refine (check_any name cron po de ke true _ hn hc (HG.out.alloc _)).mono ?_
      rintro e w1 ⟨rfl, hb1⟩
      rw [HCHK.out]
      have B1 : Below w.heap.size w w1 := ((Below.refl w.heap.size w).alloc (Nat.le_refl _) _).trans (hb1.mono (by simp))
      obtain ⟨hcc, hff⟩ := bcell hb1
      go_wp2_with fail
      go_ret2
      exact HNO.out _ hnf.out B1
  · have hnf := Lib.hid (show ¬ Job.fine ⟨name, cron, po, de, ke, su⟩ now from fun h => hchk h.1)
    generalize hcv : chkC name cron po de ke = cv at *
    have HCV := Lib.hid hcv
    have hcv0 : (cv != 0) = true := by simp; exact hchk
    clear hcv hchk
    go_enter Tryd.func5, Tryd.ntmps5
    go_wp2_with fail
    refine (check_any name cron po de ke su _ hn hc (HG.out.alloc _)).mono ?_
    rintro e w1 ⟨rfl, hb1⟩
    rw [HCV.out]
    have B1 : Below w.heap.size w w1 := ((Below.refl w.heap.size w).alloc (Nat.le_refl _) _).trans (hb1.mono (by simp))
    obtain ⟨hcc, hff⟩ := bcell hb1
    go_wp2_with fail
    go_ret2
    exact HNO.out _ hnf.out B1
end Go.Proofs.YtdmchgmcbnjelaaDoor
