/- Walks: the minute that is due, as the reference finds it. -/
import Derived.Test.YtdmchgmcbnjelaaDoorW19
namespace Go.Proofs.YtdmchgmcbnjelaaDoor
open Go.RowKit

/-- no minute behind 'after' and ahead of m matches -/
def NoneTo (E : Ex) (after m : Int) : Prop := ∀ k : Int, after < k → k < m → ¬ Match E k

theorem NoneTo.next {E : Ex} {after m : Int} (h : NoneTo E after m) (hm : ¬ Match E m) : NoneTo E after (m + 1) := by
  intro k k1 k2
  rcases Int.lt_or_le k m with q | q
  · exact h k k1 q
  · rw [show k = m from by omega]; exact hm

theorem NoneTo.hit {E : Ex} {after m now : Int} (h : NoneTo E after m) (h1 : after < m) (h2 : m ≤ now) (hm : Match E m) : Due0 E after now m true :=
  Or.inl ⟨rfl, h1, h2, hm, h⟩
theorem NoneTo.miss {E : Ex} {after m now : Int} (h : NoneTo E after m) (h1 : now < m) : Due0 E after now 0 false :=
  Or.inr ⟨rfl, rfl, fun k k1 k2 => h k k1 (by omega)⟩

set_option maxHeartbeats 1000000 in
set_option maxRecDepth 100000 in
theorem rdue_any (j : Job) (last now : Int) (w : World) (hn : j.name.size ≤ 1000) (hc : j.cron.size ≤ 1000) (hnow : now ≤ 1099511627776) (hl1 : -9223372036854775808 ≤ last) (hl2 : last ≤ 9223372036854775807) (hn1 : -9223372036854775808 ≤ now) :
    Calls Tryd.prog 6 #[.agg #[.string j.name, .string j.cron, .int .i64 j.po, .int .i64 j.de, .int .i64 j.ke, .bool j.su], .int .i64 last, .int .i64 now] w (DueTells j last now w) := by
  have NO : ∀ w', ¬ j.fine now → Below w.heap.size w w' → DueTells j last now w (.returned (.tuple #[.int .i64 0, .bool false])) w' := fun w' h hb => ⟨0, false, rfl, Or.inr ⟨h, rfl, rfl⟩, hb⟩
  have HNO := Lib.hid NO
  clear NO
  obtain ⟨name, cron, po, de, ke, su⟩ := j
  simp only at *
  by_cases hchk : chkC name cron po de ke = 0
  · obtain ⟨hp, hd1, hd2⟩ := chk_ok hchk
    have HCHK := Lib.hid hchk
    clear hchk
    cases su
    · by_cases hneg : now < 0
      · have hnf := Lib.hid (show ¬ Job.fine ⟨name, cron, po, de, ke, false⟩ now from fun h => by have := h.2.2; omega)
        go_enter Tryd.func6, Tryd.ntmps6
        go_wp2_with fail
        refine (rcheck_any name cron po de ke false _ hn hc).mono ?_
        rintro e w1 ⟨rfl, hb1⟩
        rw [HCHK.out]
        have B1 : Below w.heap.size w w1 := ((Below.refl w.heap.size w).alloc (Nat.le_refl _) _).trans (hb1.mono (by simp))
        obtain ⟨hcc, hff⟩ := bcell hb1
        go_wp2_with fail
        go_ret2
        exact HNO.out _ hnf.out B1
      · obtain ⟨hp1, hp2⟩ := parseC_ok hp
        have HP2 := Lib.hid hp2
        have HFINE := Lib.hid (show Job.fine ⟨name, cron, po, de, ke, false⟩ now from ⟨HCHK.out, rfl, by omega⟩)
        clear hp hp2
        go_enter Tryd.func6, Tryd.ntmps6
        go_wp2_with fail
        refine (rcheck_any name cron po de ke false _ hn hc).mono ?_
        rintro e w1 ⟨rfl, hb1⟩
        rw [HCHK.out]
        have B1 : Below w.heap.size w w1 := ((Below.refl w.heap.size w).alloc (Nat.le_refl _) _).trans (hb1.mono (by simp))
        have hz1 : w.heap.size < w1.heap.size := by have := hb1.size; simp at this; omega
        obtain ⟨hcc, hff⟩ := bcell hb1
        go_wp2_with fail
        refine (rparse_any cron _ hc).mono ?_
        rintro e w2 ⟨hb2, h⟩
        have B2 : Below w.heap.size w w2 := B1.trans (hb2.mono (by omega))
        have hz2 := hb2.size
        have hz3 : w.heap.size < w2.heap.size := by omega
        obtain ⟨hcc2, hff2⟩ := bcell hb2
        obtain ⟨E, hE, hok, rfl⟩ : ∃ E : Ex, parseE cron.data.toList = some E ∧ E.Ok ∧ e = .returned (.tuple #[.agg #[.int .u64 E.mi, .int .u64 E.ho, .int .u64 E.da, .int .u64 E.mo, .int .u64 E.we, .bool E.ad, .bool E.aw], .int .i64 0]) := by
          rcases h with ⟨h, _⟩ | ⟨h, h', _⟩ | ⟨E, h, h', h'', h3⟩
          · omega
          · have := HP2.out; rw [h'] at this; exact absurd this (by simp)
          · exact ⟨E, h', h'', h3⟩
        have HE := Lib.hid hE
        have HOK := Lib.hid hok
        clear h hE hok
        have FIN : ∀ n b w', Due0 E (afterOf ⟨name, cron, po, de, ke, false⟩ last now) now n b → Below w.heap.size w w' → DueTells ⟨name, cron, po, de, ke, false⟩ last now w (.returned (.tuple #[.int .i64 n, .bool b])) w' :=
          fun n b w' h hb => ⟨n, b, rfl, Or.inl ⟨HFINE.out, E, HE.out, HOK.out, hp1, hd1, hd2, h⟩, hb⟩
        have HFIN := Lib.hid FIN
        clear FIN
        by_cases hlast : last = 9223372036854775807
        · subst hlast
          go_wp2_with fail
          go_ret2
          refine HFIN.out _ _ _ (Or.inr ⟨rfl, rfl, fun k k1 k2 => ?_⟩) (B2.alloc (by omega) _)
          unfold afterOf at k1
          simp only at k1
          omega
        · have hl0 : (last == 9223372036854775807) = false := by simp; exact hlast
          have hl3 : last < 9223372036854775807 := by omega
          clear hlast
          go_wp2_with fail
          have HA : Hid (max (last + 1) (max (now - de) 0) = afterOf ⟨name, cron, po, de, ke, false⟩ last now + 1) := by
            show _ = _
            unfold afterOf; simp only; omega
          have hA0 : -1 ≤ afterOf ⟨name, cron, po, de, ke, false⟩ last now := by unfold afterOf; simp only; omega
          generalize afterOf ⟨name, cron, po, de, ke, false⟩ last now = after at *
          clear hb1 hb2
          have B2' : Below w.heap.size w (w2.alloc (.cells #[.int .u64 E.mi, .int .u64 E.ho, .int .u64 E.da, .int .u64 E.mo, .int .u64 E.we, .bool E.ad, .bool E.aw] 30)) := B2.alloc (by omega) _
          go_loopw [11] (fun v wr => ∃ m : Int, v = .int .i64 m ∧ after < m ∧ NoneTo E after m ∧ Below (w2.heap.size + 1) (w2.alloc (.cells #[.int .u64 E.mi, .int .u64 E.ho, .int .u64 E.da, .int .u64 E.mo, .int .u64 E.we, .bool E.ad, .bool E.aw] 30)) wr) (fun v _ => (now + 1 - intOf v).toNat)
          case atStart => exact ⟨_, by rw [HA.out], by omega, fun k k1 k2 => by omega, Below.refl _ _⟩
          case round =>
            obtain ⟨m, rfl, hm1, hN, hbr⟩ := hrel
            have hzr := hbr.size
            rw [World.size_alloc] at hzr
            obtain ⟨hcr, hfr⟩ := bcellB hbr
            have hz4 : w.heap.size < wr.heap.size := by omega
            have Br : Below w.heap.size w wr := B2'.trans (hbr.mono (by omega))
            rcases Int.lt_or_le now m with q | q
            · go_wp2_with fail
              go_ret2
              exact HFIN.out _ _ _ (hN.miss q) Br
            · go_wp2_with fail
              refine (matches_any E HOK.out m _ (by omega) (by omega)).mono ?_
              rintro e w3 ⟨b, rfl, hM, hb3⟩
              have B3 : Below w.heap.size w w3 := Br.trans (hb3.mono (by omega))
              have hz5 := hb3.size
              cases b
              · have hM' : ¬ Match E m := fun h => absurd (hM.2 h) (by decide)
                have HN := Lib.hid (hN.next hM')
                clear hM hM' hN
                go_wp2_with fail
                go_roundw
                case rel => exact ⟨_, rfl, by omega, HN.out, hbr.trans (hb3.mono (by omega))⟩
                case measure => simp [intOf]; omega
              · have HD := Lib.hid (hN.hit hm1 q (hM.1 rfl))
                clear hM hN
                go_wp2_with fail
                go_ret2
                exact HFIN.out _ _ _ HD.out B3
    · have hnf := Lib.hid (show ¬ Job.fine ⟨name, cron, po, de, ke, true⟩ now from fun h => by have := h.2.1; simp at this)
      go_enter Tryd.func6, Tryd.ntmps6
      go_wp2_with fail
      refine (rcheck_any name cron po de ke true _ hn hc).mono ?_
      rintro e w1 ⟨rfl, hb1⟩
      rw [HCHK.out]
      have B1 : Below w.heap.size w w1 := ((Below.refl w.heap.size w).alloc (Nat.le_refl _) _).trans (hb1.mono (by simp))
      obtain ⟨hcc, hff⟩ := bcell hb1
      go_wp2_with fail
      go_ret2
      exact HNO.out _ hnf.out B1
  · have hnf := Lib.hid (show ¬ Job.fine ⟨name, cron, po, de, ke, su⟩ now from fun h => hchk h.1)
    generalize hcv : chkC name cron po de ke = cv at *
    have HCV := Lib.hid hcv
    have hcv0 : (cv != 0) = true := by simp; exact hchk
    clear hcv hchk
    go_enter Tryd.func6, Tryd.ntmps6
    go_wp2_with fail
    refine (rcheck_any name cron po de ke su _ hn hc).mono ?_
    rintro e w1 ⟨rfl, hb1⟩
    rw [HCV.out]
    have B1 : Below w.heap.size w w1 := ((Below.refl w.heap.size w).alloc (Nat.le_refl _) _).trans (hb1.mono (by simp))
    obtain ⟨hcc, hff⟩ := bcell hb1
    go_wp2_with fail
    go_ret2
    exact HNO.out _ hnf.out B1
end Go.Proofs.YtdmchgmcbnjelaaDoor
