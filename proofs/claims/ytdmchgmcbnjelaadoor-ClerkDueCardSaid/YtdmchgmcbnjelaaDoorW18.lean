/- Walks: what is wrong with a job, both sides. -/
import Derived.Test.YtdmchgmcbnjelaaDoorW16
import Derived.Test.YtdmchgmcbnjelaaDoorW17
namespace Go.Proofs.YtdmchgmcbnjelaaDoor
open Go.RowKit

def parseC (s : ByteArray) : Int := if 100 < s.size then 5 else if (parseE s.data.toList).isSome then 0 else 25
def chkC (name cron : ByteArray) (po de ke : Int) : Int := if nameB name = true ∧ 0 ≤ po ∧ po ≤ 2 ∧ 1 ≤ de ∧ de ≤ 10080 ∧ 0 ≤ ke ∧ ke ≤ 20 then parseC cron else 26
def ChkTells (c : Int) (w : World) (e : Ending) (w' : World) : Prop := e = .returned (.int .i64 c) ∧ Below w.heap.size w w'

set_option maxHeartbeats 1000000 in
set_option maxRecDepth 100000 in
theorem check_any (name cron : ByteArray) (po de ke : Int) (su : Bool) (w : World) (hn : name.size ≤ 1000) (hc : cron.size ≤ 1000) (hG : Glob w) :
    Calls Tryd.prog 9 #[.agg #[.string name, .string cron, .int .i64 po, .int .i64 de, .int .i64 ke, .bool su]] w (ChkTells (chkC name cron po de ke) w) := by
  have HG := Lib.hid hG
  clear hG
  have BAD : ¬ (nameB name = true ∧ 0 ≤ po ∧ po ≤ 2 ∧ 1 ≤ de ∧ de ≤ 10080 ∧ 0 ≤ ke ∧ ke ≤ 20) → chkC name cron po de ke = 26 := fun h => by unfold chkC; rw [if_neg h]
  have HBAD := Lib.hid BAD
  clear BAD
  cases hnb : nameB name
  · have hh := Lib.hid (HBAD.out (by simp [hnb]))
    have HNB := Lib.hid hnb
    clear hnb
    go_enter Tryd.func9, Tryd.ntmps9
    go_wp2_with fail
    refine (name_any name _ hn).mono ?_
    rintro e w1 ⟨rfl, hb1⟩
    rw [HNB.out]
    have B1 : Below w.heap.size w w1 := ((Below.refl w.heap.size w).alloc (Nat.le_refl _) _).trans (hb1.mono (by simp))
    obtain ⟨hcc, hff⟩ := bcell hb1
    go_wp2_with fail
    go_ret
    exact ⟨retInt hh.out.symm, B1⟩
  have HNB := Lib.hid hnb
  clear hnb
  by_cases t0 : po < 0
  · have hh := Lib.hid (HBAD.out (by omega))
    go_enter Tryd.func9, Tryd.ntmps9
    go_wp2_with fail
    refine (name_any name _ hn).mono ?_
    rintro e w1 ⟨rfl, hb1⟩
    rw [HNB.out]
    have B1 : Below w.heap.size w w1 := ((Below.refl w.heap.size w).alloc (Nat.le_refl _) _).trans (hb1.mono (by simp))
    obtain ⟨hcc, hff⟩ := bcell hb1
    go_wp2_with fail
    go_ret
    exact ⟨retInt hh.out.symm, B1⟩
  by_cases t1 : 2 < po
  · have hh := Lib.hid (HBAD.out (by omega))
    go_enter Tryd.func9, Tryd.ntmps9
    go_wp2_with fail
    refine (name_any name _ hn).mono ?_
    rintro e w1 ⟨rfl, hb1⟩
    rw [HNB.out]
    have B1 : Below w.heap.size w w1 := ((Below.refl w.heap.size w).alloc (Nat.le_refl _) _).trans (hb1.mono (by simp))
    obtain ⟨hcc, hff⟩ := bcell hb1
    go_wp2_with fail
    go_ret
    exact ⟨retInt hh.out.symm, B1⟩
  by_cases t2 : de < 1
  · have hh := Lib.hid (HBAD.out (by omega))
    go_enter Tryd.func9, Tryd.ntmps9
    go_wp2_with fail
    refine (name_any name _ hn).mono ?_
    rintro e w1 ⟨rfl, hb1⟩
    rw [HNB.out]
    have B1 : Below w.heap.size w w1 := ((Below.refl w.heap.size w).alloc (Nat.le_refl _) _).trans (hb1.mono (by simp))
    obtain ⟨hcc, hff⟩ := bcell hb1
    go_wp2_with fail
    go_ret
    exact ⟨retInt hh.out.symm, B1⟩
  by_cases t3 : 10080 < de
  · have hh := Lib.hid (HBAD.out (by omega))
    go_enter Tryd.func9, Tryd.ntmps9
    go_wp2_with fail
    refine (name_any name _ hn).mono ?_
    rintro e w1 ⟨rfl, hb1⟩
    rw [HNB.out]
    have B1 : Below w.heap.size w w1 := ((Below.refl w.heap.size w).alloc (Nat.le_refl _) _).trans (hb1.mono (by simp))
    obtain ⟨hcc, hff⟩ := bcell hb1
    go_wp2_with fail
    go_ret
    exact ⟨retInt hh.out.symm, B1⟩
  by_cases t4 : ke < 0
  · have hh := Lib.hid (HBAD.out (by omega))
    go_enter Tryd.func9, Tryd.ntmps9
    go_wp2_with fail
    refine (name_any name _ hn).mono ?_
    rintro e w1 ⟨rfl, hb1⟩
    rw [HNB.out]
    have B1 : Below w.heap.size w w1 := ((Below.refl w.heap.size w).alloc (Nat.le_refl _) _).trans (hb1.mono (by simp))
    obtain ⟨hcc, hff⟩ := bcell hb1
    go_wp2_with fail
    go_ret
    exact ⟨retInt hh.out.symm, B1⟩
  by_cases t5 : 20 < ke
  · have hh := Lib.hid (HBAD.out (by omega))
    go_enter Tryd.func9, Tryd.ntmps9
    go_wp2_with fail
    refine (name_any name _ hn).mono ?_
    rintro e w1 ⟨rfl, hb1⟩
    rw [HNB.out]
    have B1 : Below w.heap.size w w1 := ((Below.refl w.heap.size w).alloc (Nat.le_refl _) _).trans (hb1.mono (by simp))
    obtain ⟨hcc, hff⟩ := bcell hb1
    go_wp2_with fail
    go_ret
    exact ⟨retInt hh.out.symm, B1⟩
  have hok : chkC name cron po de ke = parseC cron := by unfold chkC; rw [if_pos ⟨HNB.out, by omega⟩]
  have HOK := Lib.hid hok
  clear hok
  go_enter Tryd.func9, Tryd.ntmps9
  go_wp2_with fail
  refine (name_any name _ hn).mono ?_
  rintro e w1 ⟨rfl, hb1⟩
  rw [HNB.out]
  have B1 : Below w.heap.size w w1 := ((Below.refl w.heap.size w).alloc (Nat.le_refl _) _).trans (hb1.mono (by simp))
  have hz1 : w.heap.size < w1.heap.size := by have := hb1.size; simp at this; omega
  obtain ⟨hcc, hff⟩ := bcell hb1
  go_wp2_with fail
  refine (parse_any cron _ hc (HG.out.below B1)).mono ?_
  rintro e w2 ⟨hb2, h⟩
  have B2 : Below w.heap.size w w2 := B1.trans (hb2.mono (by omega))
  have hz2 := hb2.size
  rcases h with ⟨h, rfl⟩ | ⟨h, h', rfl⟩ | ⟨E, h, h', _, rfl⟩
  · have hh := Lib.hid (show parseC cron = 5 by unfold parseC; rw [if_pos h])
    go_wp2_with fail
    go_ret
    exact ⟨retInt (HOK.out.trans hh.out).symm, B2.alloc (by omega) _⟩
  · have hh := Lib.hid (show parseC cron = 25 by unfold parseC; rw [if_neg (by omega), h']; rfl)
    clear h'
    go_wp2_with fail
    go_ret
    exact ⟨retInt (HOK.out.trans hh.out).symm, B2.alloc (by omega) _⟩
  · have hh := Lib.hid (show parseC cron = 0 by unfold parseC; rw [if_neg (by omega), h']; rfl)
    clear h'
    go_wp2_with fail
    go_ret
    exact ⟨retInt (HOK.out.trans hh.out).symm, B2.alloc (by omega) _⟩

set_option maxHeartbeats 1000000 in
set_option maxRecDepth 100000 in
theorem rcheck_any (name cron : ByteArray) (po de ke : Int) (su : Bool) (w : World) (hn : name.size ≤ 1000) (hc : cron.size ≤ 1000) :
    Calls Tryd.prog 12 #[.agg #[.string name, .string cron, .int .i64 po, .int .i64 de, .int .i64 ke, .bool su]] w (ChkTells (chkC name cron po de ke) w) := by
  skip
  have BAD : ¬ (nameB name = true ∧ 0 ≤ po ∧ po ≤ 2 ∧ 1 ≤ de ∧ de ≤ 10080 ∧ 0 ≤ ke ∧ ke ≤ 20) → chkC name cron po de ke = 26 := fun h => by unfold chkC; rw [if_neg h]
  have HBAD := Lib.hid BAD
  clear BAD
  cases hnb : nameB name
  · have hh := Lib.hid (HBAD.out (by simp [hnb]))
    have HNB := Lib.hid hnb
    clear hnb
    go_enter Tryd.func12, Tryd.ntmps12
    go_wp2_with fail
    refine (rname_any name _ hn).mono ?_
    rintro e w1 ⟨rfl, hb1⟩
    rw [HNB.out]
    have B1 : Below w.heap.size w w1 := ((Below.refl w.heap.size w).alloc (Nat.le_refl _) _).trans (hb1.mono (by simp))
    obtain ⟨hcc, hff⟩ := bcell hb1
    go_wp2_with fail
    go_ret
    exact ⟨retInt hh.out.symm, B1⟩
  have HNB := Lib.hid hnb
  clear hnb
  by_cases t0 : po < 0
  · have hh := Lib.hid (HBAD.out (by omega))
    go_enter Tryd.func12, Tryd.ntmps12
    go_wp2_with fail
    refine (rname_any name _ hn).mono ?_
    rintro e w1 ⟨rfl, hb1⟩
    rw [HNB.out]
    have B1 : Below w.heap.size w w1 := ((Below.refl w.heap.size w).alloc (Nat.le_refl _) _).trans (hb1.mono (by simp))
    obtain ⟨hcc, hff⟩ := bcell hb1
    go_wp2_with fail
    go_ret
    exact ⟨retInt hh.out.symm, B1⟩
  by_cases t1 : 2 < po
  · have hh := Lib.hid (HBAD.out (by omega))
    go_enter Tryd.func12, Tryd.ntmps12
    go_wp2_with fail
    refine (rname_any name _ hn).mono ?_
    rintro e w1 ⟨rfl, hb1⟩
    rw [HNB.out]
    have B1 : Below w.heap.size w w1 := ((Below.refl w.heap.size w).alloc (Nat.le_refl _) _).trans (hb1.mono (by simp))
    obtain ⟨hcc, hff⟩ := bcell hb1
    go_wp2_with fail
    go_ret
    exact ⟨retInt hh.out.symm, B1⟩
  by_cases t2 : de < 1
  · have hh := Lib.hid (HBAD.out (by omega))
    go_enter Tryd.func12, Tryd.ntmps12
    go_wp2_with fail
    refine (rname_any name _ hn).mono ?_
    rintro e w1 ⟨rfl, hb1⟩
    rw [HNB.out]
    have B1 : Below w.heap.size w w1 := ((Below.refl w.heap.size w).alloc (Nat.le_refl _) _).trans (hb1.mono (by simp))
    obtain ⟨hcc, hff⟩ := bcell hb1
    go_wp2_with fail
    go_ret
    exact ⟨retInt hh.out.symm, B1⟩
  by_cases t3 : 10080 < de
  · have hh := Lib.hid (HBAD.out (by omega))
    go_enter Tryd.func12, Tryd.ntmps12
    go_wp2_with fail
    refine (rname_any name _ hn).mono ?_
    rintro e w1 ⟨rfl, hb1⟩
    rw [HNB.out]
    have B1 : Below w.heap.size w w1 := ((Below.refl w.heap.size w).alloc (Nat.le_refl _) _).trans (hb1.mono (by simp))
    obtain ⟨hcc, hff⟩ := bcell hb1
    go_wp2_with fail
    go_ret
    exact ⟨retInt hh.out.symm, B1⟩
  by_cases t4 : ke < 0
  · have hh := Lib.hid (HBAD.out (by omega))
    go_enter Tryd.func12, Tryd.ntmps12
    go_wp2_with fail
    refine (rname_any name _ hn).mono ?_
    rintro e w1 ⟨rfl, hb1⟩
    rw [HNB.out]
    have B1 : Below w.heap.size w w1 := ((Below.refl w.heap.size w).alloc (Nat.le_refl _) _).trans (hb1.mono (by simp))
    obtain ⟨hcc, hff⟩ := bcell hb1
    go_wp2_with fail
    go_ret
    exact ⟨retInt hh.out.symm, B1⟩
  by_cases t5 : 20 < ke
  · have hh := Lib.hid (HBAD.out (by omega))
    go_enter Tryd.func12, Tryd.ntmps12
    go_wp2_with fail
    refine (rname_any name _ hn).mono ?_
    rintro e w1 ⟨rfl, hb1⟩
    rw [HNB.out]
    have B1 : Below w.heap.size w w1 := ((Below.refl w.heap.size w).alloc (Nat.le_refl _) _).trans (hb1.mono (by simp))
    obtain ⟨hcc, hff⟩ := bcell hb1
    go_wp2_with fail
    go_ret
    exact ⟨retInt hh.out.symm, B1⟩
  have hok : chkC name cron po de ke = parseC cron := by unfold chkC; rw [if_pos ⟨HNB.out, by omega⟩]
  have HOK := Lib.hid hok
  clear hok
  go_enter Tryd.func12, Tryd.ntmps12
  go_wp2_with fail
  refine (rname_any name _ hn).mono ?_
  rintro e w1 ⟨rfl, hb1⟩
  rw [HNB.out]
  have B1 : Below w.heap.size w w1 := ((Below.refl w.heap.size w).alloc (Nat.le_refl _) _).trans (hb1.mono (by simp))
  have hz1 : w.heap.size < w1.heap.size := by have := hb1.size; simp at this; omega
  obtain ⟨hcc, hff⟩ := bcell hb1
  go_wp2_with fail
  refine (rparse_any cron _ hc).mono ?_
  rintro e w2 ⟨hb2, h⟩
  have B2 : Below w.heap.size w w2 := B1.trans (hb2.mono (by omega))
  have hz2 := hb2.size
  rcases h with ⟨h, rfl⟩ | ⟨h, h', rfl⟩ | ⟨E, h, h', _, rfl⟩
  · have hh := Lib.hid (show parseC cron = 5 by unfold parseC; rw [if_pos h])
    go_wp2_with fail
    go_ret
    exact ⟨retInt (HOK.out.trans hh.out).symm, B2.alloc (by omega) _⟩
  · have hh := Lib.hid (show parseC cron = 25 by unfold parseC; rw [if_neg (by omega), h']; rfl)
    clear h'
    go_wp2_with fail
    go_ret
    exact ⟨retInt (HOK.out.trans hh.out).symm, B2.alloc (by omega) _⟩
  · have hh := Lib.hid (show parseC cron = 0 by unfold parseC; rw [if_neg (by omega), h']; rfl)
    clear h'
    go_wp2_with fail
    go_ret
    exact ⟨retInt (HOK.out.trans hh.out).symm, B2.alloc (by omega) _⟩
end Go.Proofs.YtdmchgmcbnjelaaDoor
