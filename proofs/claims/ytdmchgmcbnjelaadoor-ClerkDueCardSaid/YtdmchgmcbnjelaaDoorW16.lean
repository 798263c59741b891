/- Walks: an expression read by the reference. -/
import Derived.Test.YtdmchgmcbnjelaaDoorW15
namespace Go.Proofs.YtdmchgmcbnjelaaDoor
open Go.RowKit

theorem rfield_fld (s : ByteArray) (f : Int) (w : World) (hs : s.size ≤ 1000) (h0 : 0 ≤ f) (h1 : f < 5) :
    Calls Tryd.prog 14 #[.string s, .int .i64 f] w fun e w' => e = .returned (.tuple #[.int .u64 (fldV s.data.toList (loF f) (hiF f)), .bool (s.data.toList == [42]), .bool (fld s.data.toList (loF f) (hiF f)).isSome]) ∧ w = w' := by
  by_cases hst : s.data.toList = [42]
  · obtain rfl : s = ⟨#[42]⟩ := by
      rcases s with ⟨⟨d⟩⟩
      simp at hst
      subst hst; rfl
    refine (rfield_star f w h0 h1).mono ?_
    rintro e w' ⟨rfl, rfl⟩
    refine ⟨?_, rfl⟩
    have e1 : fld (ByteArray.mk #[42]).data.toList (loF f) (hiF f) = some (spanN (loF f).toNat (hiF f).toNat) := by unfold fld; rw [if_pos rfl]
    unfold fldV
    rw [e1]; rfl
  · refine (rfield_any s f w hs hst h0 h1).mono ?_
    rintro e w' ⟨rfl, rfl⟩
    refine ⟨?_, rfl⟩
    have e1 : fld s.data.toList (loF f) (hiF f) = fieldO (loF f) (hiF f) (commas s.data.toList) 0 := by unfold fld; rw [if_neg hst]
    have e2 : (s.data.toList == [42]) = false := by rw [beq_eq_false_iff_ne]; exact hst
    unfold fldV fieldV fOk
    rw [e1, e2]

theorem rf0N (s : ByteArray) (w : World) (hs : s.size ≤ 1000) (h : fld s.data.toList 0 59 = none) :
    Calls Tryd.prog 14 #[.string s, .int .i64 0] w fun e w' => e = .returned (.tuple #[.int .u64 (fldV s.data.toList 0 59), .bool (s.data.toList == [42]), .bool false]) ∧ w = w' := by
  have := rfield_fld s 0 w hs (by omega) (by omega)
  rw [show loF 0 = 0 from rfl, show hiF 0 = 59 from rfl, h] at this
  exact this
theorem rf0S (s : ByteArray) (x : Nat) (w : World) (hs : s.size ≤ 1000) (h : fld s.data.toList 0 59 = some x) :
    Calls Tryd.prog 14 #[.string s, .int .i64 0] w fun e w' => e = .returned (.tuple #[.int .u64 x, .bool (s.data.toList == [42]), .bool true]) ∧ w = w' := by
  have := rfield_fld s 0 w hs (by omega) (by omega)
  have e : fldV s.data.toList 0 59 = (x : Int) := by unfold fldV; rw [h]; rfl
  rw [show loF 0 = 0 from rfl, show hiF 0 = 59 from rfl, h, e] at this
  exact this
theorem rf1N (s : ByteArray) (w : World) (hs : s.size ≤ 1000) (h : fld s.data.toList 0 23 = none) :
    Calls Tryd.prog 14 #[.string s, .int .i64 1] w fun e w' => e = .returned (.tuple #[.int .u64 (fldV s.data.toList 0 23), .bool (s.data.toList == [42]), .bool false]) ∧ w = w' := by
  have := rfield_fld s 1 w hs (by omega) (by omega)
  rw [show loF 1 = 0 from rfl, show hiF 1 = 23 from rfl, h] at this
  exact this
theorem rf1S (s : ByteArray) (x : Nat) (w : World) (hs : s.size ≤ 1000) (h : fld s.data.toList 0 23 = some x) :
    Calls Tryd.prog 14 #[.string s, .int .i64 1] w fun e w' => e = .returned (.tuple #[.int .u64 x, .bool (s.data.toList == [42]), .bool true]) ∧ w = w' := by
  have := rfield_fld s 1 w hs (by omega) (by omega)
  have e : fldV s.data.toList 0 23 = (x : Int) := by unfold fldV; rw [h]; rfl
  rw [show loF 1 = 0 from rfl, show hiF 1 = 23 from rfl, h, e] at this
  exact this
theorem rf2N (s : ByteArray) (w : World) (hs : s.size ≤ 1000) (h : fld s.data.toList 1 31 = none) :
    Calls Tryd.prog 14 #[.string s, .int .i64 2] w fun e w' => e = .returned (.tuple #[.int .u64 (fldV s.data.toList 1 31), .bool (s.data.toList == [42]), .bool false]) ∧ w = w' := by
  have := rfield_fld s 2 w hs (by omega) (by omega)
  rw [show loF 2 = 1 from rfl, show hiF 2 = 31 from rfl, h] at this
  exact this
theorem rf2S (s : ByteArray) (x : Nat) (w : World) (hs : s.size ≤ 1000) (h : fld s.data.toList 1 31 = some x) :
    Calls Tryd.prog 14 #[.string s, .int .i64 2] w fun e w' => e = .returned (.tuple #[.int .u64 x, .bool (s.data.toList == [42]), .bool true]) ∧ w = w' := by
  have := rfield_fld s 2 w hs (by omega) (by omega)
  have e : fldV s.data.toList 1 31 = (x : Int) := by unfold fldV; rw [h]; rfl
  rw [show loF 2 = 1 from rfl, show hiF 2 = 31 from rfl, h, e] at this
  exact this
theorem rf3N (s : ByteArray) (w : World) (hs : s.size ≤ 1000) (h : fld s.data.toList 1 12 = none) :
    Calls Tryd.prog 14 #[.string s, .int .i64 3] w fun e w' => e = .returned (.tuple #[.int .u64 (fldV s.data.toList 1 12), .bool (s.data.toList == [42]), .bool false]) ∧ w = w' := by
  have := rfield_fld s 3 w hs (by omega) (by omega)
  rw [show loF 3 = 1 from rfl, show hiF 3 = 12 from rfl, h] at this
  exact this
theorem rf3S (s : ByteArray) (x : Nat) (w : World) (hs : s.size ≤ 1000) (h : fld s.data.toList 1 12 = some x) :
    Calls Tryd.prog 14 #[.string s, .int .i64 3] w fun e w' => e = .returned (.tuple #[.int .u64 x, .bool (s.data.toList == [42]), .bool true]) ∧ w = w' := by
  have := rfield_fld s 3 w hs (by omega) (by omega)
  have e : fldV s.data.toList 1 12 = (x : Int) := by unfold fldV; rw [h]; rfl
  rw [show loF 3 = 1 from rfl, show hiF 3 = 12 from rfl, h, e] at this
  exact this
theorem rf4N (s : ByteArray) (w : World) (hs : s.size ≤ 1000) (h : fld s.data.toList 0 6 = none) :
    Calls Tryd.prog 14 #[.string s, .int .i64 4] w fun e w' => e = .returned (.tuple #[.int .u64 (fldV s.data.toList 0 6), .bool (s.data.toList == [42]), .bool false]) ∧ w = w' := by
  have := rfield_fld s 4 w hs (by omega) (by omega)
  rw [show loF 4 = 0 from rfl, show hiF 4 = 6 from rfl, h] at this
  exact this
theorem rf4S (s : ByteArray) (x : Nat) (w : World) (hs : s.size ≤ 1000) (h : fld s.data.toList 0 6 = some x) :
    Calls Tryd.prog 14 #[.string s, .int .i64 4] w fun e w' => e = .returned (.tuple #[.int .u64 x, .bool (s.data.toList == [42]), .bool true]) ∧ w = w' := by
  have := rfield_fld s 4 w hs (by omega) (by omega)
  have e : fldV s.data.toList 0 6 = (x : Int) := by unfold fldV; rw [h]; rfl
  rw [show loF 4 = 0 from rfl, show hiF 4 = 6 from rfl, h, e] at this
  exact this

set_option maxHeartbeats 1000000 in
set_option maxRecDepth 100000 in
theorem rparse_any (s : ByteArray) (w : World) (hs : s.size ≤ 1000) :
    Calls Tryd.prog 7 #[.string s] w (ParseTells s w) := by
  by_cases hlong : 100 < s.size
  · have hl' : (100 : Int) < s.size := by omega
    go_enter Tryd.func7, Tryd.ntmps7
    go_wp2
    exact bodyPost_ret (v := .tuple #[.agg #[.int .u64 0, .int .u64 0, .int .u64 0, .int .u64 0, .int .u64 0, .bool false, .bool false], .int .i64 5]) (by simp [results, Tryd.results7, go_sem]) rfl (parse_long hlong ((Below.refl _ _).alloc (Nat.le_refl _) _))
  · have hl' : ¬ (100 : Int) < s.size := by omega
    go_enter Tryd.func7, Tryd.ntmps7
    go_wp2_with fail
    refine (rfields_any s _ hs).mono ?_
    rintro e w2 ⟨v, ss, rfl, hF, hown, hb2⟩
    have B2 : Below w.heap.size w w2 := ((Below.refl w.heap.size w).alloc (Nat.le_refl _) _).trans (hb2.mono (by simp))
    have hz2 : w.heap.size < w2.heap.size := by have := hb2.size; simp at this; omega
    obtain ⟨hc2, hf2⟩ := bcell hb2
    have BAD : ∀ w', parseE s.data.toList = none → Below w.heap.size w w' → ParseTells s w (.returned (.tuple #[.agg #[.int .u64 0, .int .u64 0, .int .u64 0, .int .u64 0, .int .u64 0, .bool false, .bool false], .int .i64 25])) w' := fun _ h h' => parse_bad (by omega) h h'
    have HBAD := Lib.hid BAD
    clear BAD
    by_cases h5 : ss.length = 5
    · obtain ⟨s0, s1, s2, s3, s4, rfl⟩ : ∃ s0 s1 s2 s3 s4, ss = [s0, s1, s2, s3, s4] := by
        match ss, h5 with
        | [s0, s1, s2, s3, s4], _ => exact ⟨s0, s1, s2, s3, s4, rfl⟩
      obtain ⟨g, cap, rfl⟩ : ∃ g cap, v = .slice (some ⟨g, 0, none⟩) 5 cap := by
        rcases hown.2 with ⟨_, h'⟩ | ⟨g, cap, cur, h, _⟩
        · simp at h'
        · exact ⟨g, cap, h⟩
      obtain ⟨hg1, hg2⟩ := hown.lt g rfl
      have k0 := hown.cellAt 0 (by simp)
      have k1 := hown.cellAt 1 (by simp)
      have k2 := hown.cellAt 2 (by simp)
      have k3 := hown.cellAt 3 (by simp)
      have k4 := hown.cellAt 4 (by simp)
      simp at k0 k1 k2 k3 k4
      have hpz : ∀ p ∈ [s0, s1, s2, s3, s4], p.size ≤ 1000 := fun p hp => Nat.le_trans (piece_le s _ hF p hp) hs
      have z0 := hpz s0 (by simp)
      have z1 := hpz s1 (by simp)
      have z2 := hpz s2 (by simp)
      have z3 := hpz s3 (by simp)
      have z4 := hpz s4 (by simp)
      have hpe : Hid (parseE s.data.toList = five [s0.data.toList, s1.data.toList, s2.data.toList, s3.data.toList, s4.data.toList]) := by
        show _ = _
        unfold parseE
        rw [hF]; rfl
      clear hpz hown hF h5
      have HB2 := Lib.hid B2
      clear B2 hb2
      go_wp2_with fail
      refine wp_loop_rounds 6 ?_
      rw [rounds_succ]
      go_wp2_with fail
      cases f0 : fld s0.data.toList 0 59 with
      | none =>
        have hpn := Lib.hid (hpe.out.trans (five_0 f0))
        have F := Lib.hid f0
        clear f0
        refine (rf0N s0 _ z0 F.out).mono ?_
        rintro e w3 ⟨rfl, rfl⟩
        go_wp2_with fail
        refine bodyPost_ret (v := .tuple #[.agg #[.int .u64 0, .int .u64 0, .int .u64 0, .int .u64 0, .int .u64 0, .bool false, .bool false], .int .i64 25]) (by simp [results, Tryd.results7, go_sem, hc2, hz2]) rfl (HBAD.out _ hpn.out ?_)
        refine Below.alloc ?_ (by simp [World.setCell]; omega) _
        iterate 7 refine Below.setCell ?_ (by simp) _
        exact HB2.out
      | some x0 =>
        have F0 := Lib.hid f0
        clear f0
        refine (rf0S s0 x0 _ z0 F0.out).mono ?_
        rintro e w3 ⟨rfl, rfl⟩
        go_wp2_with fail
        rw [rounds_succ]
        go_wp2_with fail
        cases f1 : fld s1.data.toList 0 23 with
        | none =>
          have hpn := Lib.hid (hpe.out.trans (five_1 f1))
          have F := Lib.hid f1
          clear f1
          refine (rf1N s1 _ z1 F.out).mono ?_
          rintro e w3 ⟨rfl, rfl⟩
          go_wp2_with fail
          refine bodyPost_ret (v := .tuple #[.agg #[.int .u64 0, .int .u64 0, .int .u64 0, .int .u64 0, .int .u64 0, .bool false, .bool false], .int .i64 25]) (by simp [results, Tryd.results7, go_sem, hc2, hz2]) rfl (HBAD.out _ hpn.out ?_)
          refine Below.alloc ?_ (by simp [World.setCell]; omega) _
          iterate 7 refine Below.setCell ?_ (by simp) _
          exact HB2.out
        | some x1 =>
          have F1 := Lib.hid f1
          clear f1
          refine (rf1S s1 x1 _ z1 F1.out).mono ?_
          rintro e w3 ⟨rfl, rfl⟩
          go_wp2_with fail
          rw [rounds_succ]
          go_wp2_with fail
          cases f2 : fld s2.data.toList 1 31 with
          | none =>
            have hpn := Lib.hid (hpe.out.trans (five_2 f2))
            have F := Lib.hid f2
            clear f2
            refine (rf2N s2 _ z2 F.out).mono ?_
            rintro e w3 ⟨rfl, rfl⟩
            go_wp2_with fail
            refine bodyPost_ret (v := .tuple #[.agg #[.int .u64 0, .int .u64 0, .int .u64 0, .int .u64 0, .int .u64 0, .bool false, .bool false], .int .i64 25]) (by simp [results, Tryd.results7, go_sem, hc2, hz2]) rfl (HBAD.out _ hpn.out ?_)
            refine Below.alloc ?_ (by simp [World.setCell]; omega) _
            iterate 7 refine Below.setCell ?_ (by simp) _
            exact HB2.out
          | some x2 =>
            have F2 := Lib.hid f2
            clear f2
            refine (rf2S s2 x2 _ z2 F2.out).mono ?_
            rintro e w3 ⟨rfl, rfl⟩
            go_wp2_with fail
            rw [rounds_succ]
            go_wp2_with fail
            cases f3 : fld s3.data.toList 1 12 with
            | none =>
              have hpn := Lib.hid (hpe.out.trans (five_3 f3))
              have F := Lib.hid f3
              clear f3
              refine (rf3N s3 _ z3 F.out).mono ?_
              rintro e w3 ⟨rfl, rfl⟩
              go_wp2_with fail
              refine bodyPost_ret (v := .tuple #[.agg #[.int .u64 0, .int .u64 0, .int .u64 0, .int .u64 0, .int .u64 0, .bool false, .bool false], .int .i64 25]) (by simp [results, Tryd.results7, go_sem, hc2, hz2]) rfl (HBAD.out _ hpn.out ?_)
              refine Below.alloc ?_ (by simp [World.setCell]; omega) _
              iterate 7 refine Below.setCell ?_ (by simp) _
              exact HB2.out
            | some x3 =>
              have F3 := Lib.hid f3
              clear f3
              refine (rf3S s3 x3 _ z3 F3.out).mono ?_
              rintro e w3 ⟨rfl, rfl⟩
              go_wp2_with fail
              rw [rounds_succ]
              go_wp2_with fail
              cases f4 : fld s4.data.toList 0 6 with
              | none =>
                have hpn := Lib.hid (hpe.out.trans (five_4 f4))
                have F := Lib.hid f4
                clear f4
                refine (rf4N s4 _ z4 F.out).mono ?_
                rintro e w3 ⟨rfl, rfl⟩
                go_wp2_with fail
                refine bodyPost_ret (v := .tuple #[.agg #[.int .u64 0, .int .u64 0, .int .u64 0, .int .u64 0, .int .u64 0, .bool false, .bool false], .int .i64 25]) (by simp [results, Tryd.results7, go_sem, hc2, hz2]) rfl (HBAD.out _ hpn.out ?_)
                refine Below.alloc ?_ (by simp [World.setCell]; omega) _
                iterate 7 refine Below.setCell ?_ (by simp) _
                exact HB2.out
              | some x4 =>
                have F4 := Lib.hid f4
                clear f4
                refine (rf4S s4 x4 _ z4 F4.out).mono ?_
                rintro e w3 ⟨rfl, rfl⟩
                go_wp2_with fail
                rw [rounds_succ]
                go_wp2_with fail
                have hpn := hpe.out.trans (five_some F0.out F1.out F2.out F3.out F4.out)
                refine bodyPost_ret (v := .tuple #[.agg #[.int .u64 x0, .int .u64 x1, .int .u64 x2, .int .u64 x3, .int .u64 x4, .bool (s2.data.toList == [42]), .bool (s4.data.toList == [42])], .int .i64 0]) (by simp [results, Tryd.results7, go_sem, hc2, hz2]) rfl ?_
                refine ⟨?_, Or.inr (Or.inr ⟨⟨x0, x1, x2, x3, x4, s2.data.toList == [42], s4.data.toList == [42]⟩, by omega, hpn, ok_of F0.out F1.out F2.out F3.out F4.out, rfl⟩)⟩
                refine Below.alloc ?_ (by simp [World.setCell]; omega) _
                iterate 7 refine Below.setCell ?_ (by simp) _
                exact HB2.out
    · have hlen : ∃ a n c, v = .slice a n c ∧ n = ss.length := by
        rcases hown.2 with ⟨h, h'⟩ | ⟨g, cap, cur, h, _⟩
        · exact ⟨_, _, _, h, h'.symm⟩
        · exact ⟨_, _, _, h, rfl⟩
      have hp5 : parseE s.data.toList = none := by
        unfold parseE
        rw [hF]
        exact five_len (by simpa [texts] using h5)
      obtain ⟨a, n, c, rfl, hn⟩ := hlen
      have hpn := Lib.hid hp5
      have hn5 : ((n : Int) == 5) = false := by simp; omega
      clear hn h5 hown hF hp5
      go_wp2_with fail
      refine bodyPost_ret (v := .tuple #[.agg #[.int .u64 0, .int .u64 0, .int .u64 0, .int .u64 0, .int .u64 0, .bool false, .bool false], .int .i64 25]) (by simp [results, Tryd.results7, go_sem, hc2]) rfl (HBAD.out _ hpn.out ?_)
      iterate 7 refine Below.setCell ?_ (by simp) _
      exact B2
end Go.Proofs.YtdmchgmcbnjelaaDoor
