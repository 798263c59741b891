/- Walks: the two known answers, and the law. -/
import Derived.Test.YtdmchgmcbnjelaaDoorW20
import Derived.KernelRfl
namespace Go.Proofs.YtdmchgmcbnjelaaDoor
open Go.RowKit

def jobA : Job := ⟨⟨#[97]⟩, ⟨#[42, 32, 42, 32, 42, 32, 42, 32, 42]⟩, 0, 10, 0, false⟩
def exA : Ex := ⟨spanN 0 59, spanN 0 23, spanN 1 31, spanN 1 12, spanN 0 6, true, true⟩

theorem exA_is : parseE jobA.cron.data.toList = some exA := by kernel_rfl
theorem fineA : jobA.fine 100 := by
  refine ⟨?_, rfl, by decide⟩
  have hn : nameB jobA.name = true := by
    rw [nameB_good]
    · kernel_rfl
    · intro i h
      have h' : i < 1 := h
      obtain rfl : i = 0 := by omega
      rfl
  have hp : parseC jobA.cron = 0 := by
    unfold parseC
    rw [exA_is]; rfl
  unfold chkC
  rw [if_pos ⟨hn, by decide, by decide, by decide, by decide, by decide, by decide⟩, hp]

theorem dateA : Cal.IsDate 719162 1970 1 1 := by
  constructor <;> first | decide | kernel_rfl

theorem matchA : Match exA 99 := by
  refine ⟨by decide, by decide, 1970, 1, 1, dateA, ?_, ?_, ?_⟩ <;> kernel_rfl

def Said (w : World) (e : Ending) (w' : World) : Prop := e = .returned (.bool true) ∧ Below w.heap.size w w'

theorem dueA1 {n : Int} {b : Bool} (h : DueP jobA 98 100 n b) : n = 99 ∧ b = true := by
  refine h.uniq (Or.inl ⟨fineA, exA, exA_is, ?_, by decide, by decide, by decide, Or.inl ⟨rfl, by decide, by decide, matchA, fun k k1 k2 => ?_⟩⟩)
  · constructor <;> decide
  · have : (98 : Int) < k := by
      have e : afterOf jobA 98 100 = 98 := by decide
      rw [e] at k1; exact k1
    omega
theorem dueA2 {n : Int} {b : Bool} (h : DueP jobA 100 100 n b) : b = false := by
  rcases h with ⟨_, E, _, _, _, _, _, ⟨rfl, h1, h2, _⟩ | ⟨h, _⟩⟩ | ⟨_, _, h⟩
  · have e : afterOf jobA 100 100 = 100 := by decide
    rw [e] at h1; omega
  · exact h
  · exact h

set_option maxRecDepth 100000 in
theorem known_any (w : World) (hG : Glob w) : Calls Tryd.prog 4 #[] w (Said w) := by
  have HG := Lib.hid hG
  clear hG
  go_enter Tryd.func4, Tryd.ntmps4
  go_wp2_with fail
  refine (due_any jobA 98 100 _ (by decide) (by decide) (by decide) HG.out).mono ?_
  rintro e w1 ⟨n, b, rfl, hD, hb1⟩
  obtain ⟨rfl, rfl⟩ := dueA1 hD
  clear hD
  go_wp2_with fail
  refine (due_any jobA 100 100 _ (by decide) (by decide) (by decide) (HG.out.below hb1)).mono ?_
  rintro e w2 ⟨n, b, rfl, hD, hb2⟩
  obtain rfl := dueA2 hD
  clear hD
  go_wp2_with fail
  go_ret
  exact ⟨rfl, hb1.trans (hb2.mono hb1.size)⟩

/-- what the law looks at behind a hit -/
theorem due_hit {j : Job} {last now n : Int} (h : DueP j last now n true) :
    ∃ E, parseE j.cron.data.toList = some E ∧ E.Ok ∧ j.cron.size ≤ 100 ∧ Match E n ∧ last < n ∧ n ≤ now ∧ now - n ≤ j.de ∧ 0 ≤ n := by
  rcases h with ⟨_, E, h1, h2, h3, _, _, ⟨_, h4, h5, h6, _⟩ | ⟨h, _⟩⟩ | ⟨_, _, h⟩
  · refine ⟨E, h1, h2, h3, h6, ?_⟩
    unfold afterOf at h4
    refine ⟨by omega, h5, by omega, by omega⟩
  · exact absurd h (by decide)
  · exact absurd h (by decide)

set_option maxHeartbeats 1000000 in
set_option maxRecDepth 100000 in
theorem law_any (j : Job) (last now : Int) (w : World) (hs : j.name.size + j.cron.size ≤ 9223372036854775807) (hl1 : -9223372036854775808 ≤ last) (hl2 : last ≤ 9223372036854775807) (hn1 : -9223372036854775808 ≤ now) (hn2 : now ≤ 9223372036854775807) (hG : Glob w) :
    Calls Tryd.prog 3 #[.agg #[.string j.name, .string j.cron, .int .i64 j.po, .int .i64 j.de, .int .i64 j.ke, .bool j.su], .int .i64 last, .int .i64 now] w (Said w) := by
  have HG := Lib.hid hG
  clear hG
  obtain ⟨name, cron, po, de, ke, su⟩ := j
  simp only at *
  by_cases hbig : 500 < name.size + cron.size
  · have hb' : (500 : Int) < (name.size : Int) + cron.size := by omega
    go_enter Tryd.func3, Tryd.ntmps3
    go_wp2_with fail
    refine (known_any _ (HG.out.alloc _)).mono ?_
    rintro e w1 ⟨rfl, hb1⟩
    have B1 : Below w.heap.size w w1 := ((Below.refl w.heap.size w).alloc (Nat.le_refl _) _).trans (hb1.mono (by simp))
    obtain ⟨hcc, hff⟩ := bcell hb1
    go_wp2_with fail
    go_ret
    exact ⟨rfl, B1⟩
  have hb' : ¬ (500 : Int) < (name.size : Int) + cron.size := by omega
  by_cases hnow : 1099511627776 < now
  · go_enter Tryd.func3, Tryd.ntmps3
    go_wp2_with fail
    refine (known_any _ (HG.out.alloc _)).mono ?_
    rintro e w1 ⟨rfl, hb1⟩
    have B1 : Below w.heap.size w w1 := ((Below.refl w.heap.size w).alloc (Nat.le_refl _) _).trans (hb1.mono (by simp))
    obtain ⟨hcc, hff⟩ := bcell hb1
    go_wp2_with fail
    go_ret
    exact ⟨rfl, B1⟩
  go_enter Tryd.func3, Tryd.ntmps3
  go_wp2_with fail
  refine (known_any _ (HG.out.alloc _)).mono ?_
  rintro e w1 ⟨rfl, hb1⟩
  have B1 : Below w.heap.size w w1 := ((Below.refl w.heap.size w).alloc (Nat.le_refl _) _).trans (hb1.mono (by simp))
  have hz1 : w.heap.size < w1.heap.size := by have := hb1.size; simp at this; omega
  obtain ⟨hcc, hff⟩ := bcell hb1
  clear hb1
  go_wp2_with fail
  refine (due_any ⟨name, cron, po, de, ke, su⟩ last now _ (by show name.size ≤ 1000; omega) (by show cron.size ≤ 1000; omega) (by omega) (HG.out.below B1)).mono ?_
  rintro e w2 ⟨n, b, rfl, hD, hb2⟩
  have B2 : Below w.heap.size w w2 := B1.trans (hb2.mono (by omega))
  have hz2 : w1.heap.size ≤ w2.heap.size := hb2.size
  have hz2' : w.heap.size < w2.heap.size := by omega
  obtain ⟨hcc2, hff2⟩ := bcell hb2
  clear hb2
  have HD := Lib.hid hD
  clear hD
  go_wp2_with fail
  refine (rdue_any ⟨name, cron, po, de, ke, su⟩ last now _ (by show name.size ≤ 1000; omega) (by show cron.size ≤ 1000; omega) (by omega) hl1 hl2 hn1).mono ?_
  rintro e w3 ⟨n', b', rfl, hD', hb3⟩
  obtain ⟨rfl, rfl⟩ := HD.out.uniq hD'
  have B3 : Below w.heap.size w w3 := B2.trans (hb3.mono (by omega))
  have hz3 : w2.heap.size ≤ w3.heap.size := hb3.size
  have hz3' : w.heap.size < w3.heap.size := by omega
  obtain ⟨hcc3, hff3⟩ := bcell hb3
  clear hb3 hD'
  cases b
  · go_wp2_with fail
    go_ret
    exact ⟨rfl, B3⟩
  · obtain ⟨E, hE, hok, hcs, hM, hgt, hle, hde, hpos⟩ := due_hit HD.out
    have HE := Lib.hid hE
    have HOK := Lib.hid hok
    have HM := Lib.hid hM
    clear hE hok hM
    simp only at HE hcs hde
    go_wp2_with fail
    refine (rparse_any cron _ (by omega)).mono ?_
    rintro e w4 ⟨hb4, h⟩
    have B4 : Below w.heap.size w w4 := B3.trans (hb4.mono (by omega))
    have hz4 : w3.heap.size ≤ w4.heap.size := hb4.size
    have hz4' : w.heap.size < w4.heap.size := by omega
    obtain ⟨hcc4, hff4⟩ := bcell hb4
    clear hb4
    obtain rfl : e = .returned (.tuple #[.agg #[.int .u64 E.mi, .int .u64 E.ho, .int .u64 E.da, .int .u64 E.mo, .int .u64 E.we, .bool E.ad, .bool E.aw], .int .i64 0]) := by
      rcases h with ⟨h, _⟩ | ⟨h, h', _⟩ | ⟨E', h, h', h'', h3⟩
      · omega
      · rw [HE.out] at h'; exact absurd h' (by simp)
      · rw [HE.out] at h'
        obtain rfl := Option.some.inj h'
        exact h3
    clear h
    go_wp2_with fail
    refine (matches_any E HOK.out n _ hpos (by omega)).mono ?_
    rintro e w5 ⟨b, rfl, hM, hb5⟩
    obtain rfl : b = true := hM.2 HM.out
    clear hM
    have B5 : Below w.heap.size w w5 := (B4.alloc (by omega) _).trans (hb5.mono (by rw [World.size_alloc]; omega))
    have hz5 : w.heap.size < w5.heap.size := by have := hb5.size; rw [World.size_alloc] at this; omega
    obtain ⟨hcc5, hff5⟩ := bcell hb5
    clear hb5
    go_wp2_with fail
    go_ret
    exact ⟨rfl, B5⟩
end Go.Proofs.YtdmchgmcbnjelaaDoor
