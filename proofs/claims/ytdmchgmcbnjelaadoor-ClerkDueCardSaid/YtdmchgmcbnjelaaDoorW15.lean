/- Walks: an expression read by the program. -/
import Derived.Test.YtdmchgmcbnjelaaDoorParse2
import Derived.Deep.RegionHeld3
import Derived.Deep.DeepCutAuto
namespace Go.Proofs.YtdmchgmcbnjelaaDoor
open Go.RowKit

def ParseTells (s : ByteArray) (w : World) (e : Ending) (w' : World) : Prop :=
  Below w.heap.size w w' ∧ ((100 < s.size ∧ e = .returned (.tuple #[.agg #[.int .u64 0, .int .u64 0, .int .u64 0, .int .u64 0, .int .u64 0, .bool false, .bool false], .int .i64 5])) ∨
    (s.size ≤ 100 ∧ parseE s.data.toList = none ∧ e = .returned (.tuple #[.agg #[.int .u64 0, .int .u64 0, .int .u64 0, .int .u64 0, .int .u64 0, .bool false, .bool false], .int .i64 25])) ∨
    (∃ E : Ex, s.size ≤ 100 ∧ parseE s.data.toList = some E ∧ E.Ok ∧ e = .returned (.tuple #[.agg #[.int .u64 E.mi, .int .u64 E.ho, .int .u64 E.da, .int .u64 E.mo, .int .u64 E.we, .bool E.ad, .bool E.aw], .int .i64 0])))

theorem parse_long {s : ByteArray} {w w' : World} (h : 100 < s.size) (hb : Below w.heap.size w w') :
    ParseTells s w (.returned (.tuple #[.agg #[.int .u64 0, .int .u64 0, .int .u64 0, .int .u64 0, .int .u64 0, .bool false, .bool false], .int .i64 5])) w' := ⟨hb, Or.inl ⟨h, rfl⟩⟩
theorem parse_bad {s : ByteArray} {w w' : World} (h : s.size ≤ 100) (hp : parseE s.data.toList = none) (hb : Below w.heap.size w w') :
    ParseTells s w (.returned (.tuple #[.agg #[.int .u64 0, .int .u64 0, .int .u64 0, .int .u64 0, .int .u64 0, .bool false, .bool false], .int .i64 25])) w' := ⟨hb, Or.inr (Or.inl ⟨h, hp, rfl⟩)⟩

theorem stepF_le (n : Nat) (c : UInt8) (st : List (List UInt8) × Bool) (h : ∀ p ∈ st.1, p.length ≤ n) : ∀ p ∈ (stepF st c).1, p.length ≤ n + 1 := by
  unfold stepF
  split
  · intro p hp; have := h p hp; omega
  · split
    · intro p hp
      rw [List.mem_append] at hp
      rcases hp with hp | hp
      · have := h p (List.dropLast_subset _ hp); omega
      · have e : p = st.1.getLastD [] ++ [c] := by simpa using hp
        rw [e, List.length_append]
        have : (st.1.getLastD []).length ≤ n := by
          cases hq : st.1 with
          | nil => simp
          | cons a l =>
            rw [List.getLastD_cons]
            refine h _ ?_
            rw [hq]
            have := List.getLast_mem (List.cons_ne_nil a l)
            rw [List.getLast_eq_getLastD] at this
            exact this
        rw [List.length_singleton]; omega
    · intro p hp
      rw [List.mem_append] at hp
      rcases hp with hp | hp
      · have := h p hp; omega
      · have e : p = [c] := by simpa using hp
        rw [e]; simp

theorem foldl_le : ∀ (l : List UInt8) (n : Nat) (st : List (List UInt8) × Bool), (∀ p ∈ st.1, p.length ≤ n) → ∀ p ∈ (l.foldl stepF st).1, p.length ≤ n + l.length
  | [], n, st, h => h
  | c :: l, n, st, h => by
    intro p hp
    have := foldl_le l (n + 1) (stepF st c) (stepF_le n c st h) p hp
    simp; omega

theorem piece_le (r : ByteArray) (ss : List ByteArray) (h : fieldsL r.data.toList = texts ss) (p : ByteArray) (hp : p ∈ ss) : p.size ≤ r.size := by
  have h1 : p.data.toList ∈ fieldsL r.data.toList := by rw [h]; exact List.mem_map.2 ⟨p, hp, rfl⟩
  have := foldl_le r.data.toList 0 ([], false) (by simp) _ h1
  simpa using this

def fldV (s : List UInt8) (lo hi : Int) : Int := ((fld s lo hi).getD 0 : Nat)
theorem field_fld (s : ByteArray) (lo hi : Int) (w : World) (hs : s.size ≤ 1000) (h0 : 0 ≤ lo) (h1 : lo ≤ 1) (h2 : lo ≤ hi) (h3 : hi < 60) (hG : Glob w) :
    Calls Tryd.prog 21 #[.string s, .int .i64 lo, .int .i64 hi] w (U64Tells (fldV s.data.toList lo hi) w) := by
  have := field_any s lo hi w hs h0 h1 h2 h3 hG
  rw [fieldV_fld] at this
  exact this
theorem keep_below {w2 W W' : World} (h : Below w2.heap.size w2 W) (hb : Below W.heap.size W W') : Below w2.heap.size w2 W' := h.trans (hb.mono h.size)
theorem lt_keep {W W' : World} (hb : Below W.heap.size W W') : ∀ n, n < W.heap.size → n < W'.heap.size := fun _ h => Nat.lt_of_lt_of_le h hb.size
theorem lt_comp {A B C : Nat} (h : ∀ n, n < A → n < B) (k : ∀ n, n < B → n < C) : ∀ n, n < A → n < C := fun n q => k n (h n q)
theorem keep_alloc {w2 W : World} (h : Below w2.heap.size w2 W) (o : Obj) : Below w2.heap.size w2 (W.alloc o) := h.alloc h.size o
theorem held5 {w2 W : World} {g : Nat} {s0 s1 s2 s3 s4 : ByteArray} (hg : g < w2.heap.size) (k0 : w2.cell? ⟨g, 0, none⟩ = some (.string s0)) (k1 : w2.cell? ⟨g, 1, none⟩ = some (.string s1)) (k2 : w2.cell? ⟨g, 2, none⟩ = some (.string s2))
    (k3 : w2.cell? ⟨g, 3, none⟩ = some (.string s3)) (k4 : w2.cell? ⟨g, 4, none⟩ = some (.string s4)) (hb : Below w2.heap.size w2 W) :
    W.cell? ⟨g, 0, none⟩ = some (.string s0) ∧ W.cell? ⟨g, 1, none⟩ = some (.string s1) ∧ W.cell? ⟨g, 2, none⟩ = some (.string s2) ∧ W.cell? ⟨g, 3, none⟩ = some (.string s3) ∧ W.cell? ⟨g, 4, none⟩ = some (.string s4) ∧ Below w2.heap.size w2 W :=
  ⟨(hb.cell (p := ⟨g, 0, none⟩) hg).trans k0, (hb.cell (p := ⟨g, 1, none⟩) hg).trans k1, (hb.cell (p := ⟨g, 2, none⟩) hg).trans k2, (hb.cell (p := ⟨g, 3, none⟩) hg).trans k3, (hb.cell (p := ⟨g, 4, none⟩) hg).trans k4, hb⟩

set_option maxHeartbeats 8000000 in
set_option maxRecDepth 100000 in
theorem parse_any (s : ByteArray) (w : World) (hs : s.size ≤ 1000) (hG : Glob w) :
    Calls Tryd.prog 10 #[.string s] w (ParseTells s w) := by
  have HG := Lib.hid hG
  clear hG
  by_cases hlong : 100 < s.size
  · have hl' : (100 : Int) < s.size := by omega
    go_enter Tryd.func10, Tryd.ntmps10
    go_wp2
    exact bodyPost_ret (v := .tuple #[.agg #[.int .u64 0, .int .u64 0, .int .u64 0, .int .u64 0, .int .u64 0, .bool false, .bool false], .int .i64 5]) (by simp [results, Tryd.results10, go_sem]) rfl (parse_long hlong ((Below.refl _ _).alloc (Nat.le_refl _) _))
  · have hl' : ¬ (100 : Int) < s.size := by omega
    go_enter Tryd.func10, Tryd.ntmps10
    go_wp2_with fail
    refine (toValid_any s _ hs (HG.out.alloc _)).mono ?_
    rintro e w1 ⟨r, rfl, hr, hb1⟩
    have B1 : Below w.heap.size w w1 := ((Below.refl w.heap.size w).alloc (Nat.le_refl _) _).trans (hb1.mono (by simp))
    have hz1 : w.heap.size < w1.heap.size := by have := hb1.size; simp at this; omega
    obtain ⟨hc, hf⟩ := bcell hb1
    have BAD : ∀ w', parseE s.data.toList = none → Below w.heap.size w w' → ParseTells s w (.returned (.tuple #[.agg #[.int .u64 0, .int .u64 0, .int .u64 0, .int .u64 0, .int .u64 0, .bool false, .bool false], .int .i64 25])) w' := fun _ h h' => parse_bad (by omega) h h'
    have HBAD := Lib.hid BAD
    clear BAD
    by_cases hV : VU s
    rotate_left
    · have hpn := Lib.hid (parse_invalid s hV)
      have hne : (r.toList == s.toList) = false := by
        rw [ByteArray.toList_eq, ByteArray.toList_eq, beq_eq_false_iff_ne]
        intro e
        rcases hr with ⟨h, _⟩ | h
        · exact hV h
        · have h := h.2
          have := congrArg List.length e
          simp at this
          omega
      clear hr hV
      go_wp2_with fail
      refine bodyPost_ret (v := .tuple #[.agg #[.int .u64 0, .int .u64 0, .int .u64 0, .int .u64 0, .int .u64 0, .bool false, .bool false], .int .i64 25]) (by simp [results, Tryd.results10, go_sem, hc]) rfl (HBAD.out _ hpn.out ?_)
      iterate 7 refine Below.setCell ?_ (by simp) _
      exact B1
    · have hrs : r = s := by
        rcases hr with ⟨_, h⟩ | h
        · exact h
        · exact absurd hV h.1
      subst hrs
      clear hr
      go_wp2_with fail
      refine (fields_any _ _ hs hV).mono ?_
      clear hV
      rintro e w2 ⟨v, ss, rfl, hF, hown, hb2⟩
      have B2 : Below w.heap.size w w2 := B1.trans (hb2.mono (by omega))
      have hz2 : w.heap.size < w2.heap.size := by have := hb2.size; omega
      obtain ⟨hc2, hf2⟩ := bcell hb2
      have hp5 : ss.length ≠ 5 → parseE r.data.toList = none := by
        intro h
        unfold parseE
        rw [hF]
        exact five_len (by simpa [texts] using h)
      have HP5 := Lib.hid hp5
      clear hp5
      by_cases h5 : ss.length = 5
      · obtain ⟨s0, s1, s2, s3, s4, rfl⟩ : ∃ s0 s1 s2 s3 s4, ss = [s0, s1, s2, s3, s4] := by
          match ss, h5 with
          | [s0, s1, s2, s3, s4], _ => exact ⟨s0, s1, s2, s3, s4, rfl⟩
        obtain ⟨g, cap, rfl⟩ : ∃ g cap, v = .slice (some ⟨g, 0, none⟩) 5 cap := by
          rcases hown.2 with ⟨_, h'⟩ | ⟨g, cap, cur, h, _⟩
          · simp at h'
          · exact ⟨g, cap, h⟩
        obtain ⟨hg1, hg2⟩ := hown.lt g rfl
        have k0 := hown.cellAt 0 (by simp)
        have k1 := hown.cellAt 1 (by simp)
        have k2 := hown.cellAt 2 (by simp)
        have k3 := hown.cellAt 3 (by simp)
        have k4 := hown.cellAt 4 (by simp)
        simp at k0 k1 k2 k3 k4
        have hpz : ∀ p ∈ [s0, s1, s2, s3, s4], p.size ≤ 1000 := fun p hp => Nat.le_trans (piece_le r _ hF p hp) hs
        have z0 := hpz s0 (by simp)
        have z1 := hpz s1 (by simp)
        have z2 := hpz s2 (by simp)
        have z3 := hpz s3 (by simp)
        have z4 := hpz s4 (by simp)
        have GW := Lib.hid (HG.out.below B2)
        have HF := Lib.hid hF
        clear hpz hown hF HP5 h5
        have HB1 := Lib.hid hb1
        have HB2 := Lib.hid hb2
        have HBB := Lib.hid B1
        have HBB2 := Lib.hid B2
        clear hb1 hb2 B1 B2 
        go_upto_region 8 with fail
        go_cut [5] (fun s5 wx => ∃ b : Nat, s5 = .pointer (some ⟨b, 0, none⟩) ∧ wx.cell? ⟨b, 0, none⟩ = some (.int .u64 (fldV s0.data.toList 0 59)) ∧ wx.cell? ⟨b, 1, none⟩ = some (.int .u64 (fldV s1.data.toList 0 23)) ∧ wx.cell? ⟨b, 2, none⟩ = some (.int .u64 (fldV s2.data.toList 1 31)) ∧ wx.cell? ⟨b, 3, none⟩ = some (.int .u64 (fldV s3.data.toList 1 12)) ∧ wx.cell? ⟨b, 4, none⟩ = some (.int .u64 (fldV s4.data.toList 0 6)) ∧ wx.cell? ⟨b, 5, none⟩ = some (.bool (s2.toList == [42])) ∧ wx.cell? ⟨b, 6, none⟩ = some (.bool (s4.toList == [42])) ∧ Below w2.heap.size w2 wx)
        case first =>
          clear hc hf hc2 hf2 hz1 hz2 hl'
          go_region_held3 (fun W => W.cell? ⟨g, 0, none⟩ = some (.string s0) ∧ W.cell? ⟨g, 1, none⟩ = some (.string s1) ∧ W.cell? ⟨g, 2, none⟩ = some (.string s2) ∧ W.cell? ⟨g, 3, none⟩ = some (.string s3) ∧ W.cell? ⟨g, 4, none⟩ = some (.string s4) ∧ Below w2.heap.size w2 W)
          ((go_split_ands
            refine held5 hg2 k0 k1 k2 k3 k4 ?_
            first
            | (with_reducible exact (Below.refl _ _).drew)
            | ((iterate 7 (with_reducible refine Below.setCell ?_ (by first | omega | (simp; done) | (simp; omega)) _)); assumption)
            | (with_reducible exact keep_alloc (by assumption) _)
            | (with_reducible exact (keep_alloc (Below.refl _ _) _).drew)
            | (with_reducible assumption)))
          ((go_at_call 21; refine (field_fld _ _ _ _ (by assumption) (by omega) (by omega) (by omega) (by omega) ?_).mono ?_; (go_split_ands; first | exact GW.out.below (by assumption) | exact GW.out.below ((Below.refl _ _).drew)); rintro e w' ⟨rfl, hbx⟩; have hkk : Below w2.heap.size w2 w' := (by go_split_ands; first | exact keep_below (by assumption) hbx | exact keep_below ((Below.refl _ _).drew) hbx); obtain ⟨hcx, hfx⟩ := bcell hbx; have hzn := lt_keep hbx; (first | (have hzx := lt_comp hzx hzn) | (have hzx := hzn)); have hs2 := hkk.size))
          all_goals
            go_wp2_with fail
            go_meet
            refine ⟨_, rfl, ?_, ?_, ?_, ?_, ?_, ?_, ?_, ?_⟩
            iterate 7 (· first | (go_simp; done) | (go_simp; refine World.cell?_setCell_same' _ _ _ ?_; go_simp))
            go_split_ands
            first
            | assumption
            | skip
        case rest =>
          obtain ⟨b, rfl, c0, c1, c2, c3, c4, c5, c6, hbc⟩ := hcut
          have BC : Below w.heap.size w wc := HBB2.out.trans (hbc.mono (by omega))
          obtain ⟨hcc, hfc⟩ := bcellB hbc
          have hz3 : w.heap.size < wc.heap.size := Nat.lt_of_lt_of_le hz2 hbc.size
          have hzc : w.heap.size < w1.heap.size := hz1
          have HBC := Lib.hid BC
          clear BC hbc
          have hpe : Hid (parseE r.data.toList = five [s0.data.toList, s1.data.toList, s2.data.toList, s3.data.toList, s4.data.toList]) := by
            show _ = _
            unfold parseE
            rw [HF.out]; rfl
          have zz : ∀ s lo hi, fld s lo hi = none → fldV s lo hi = 0 := fun s lo hi h => by unfold fldV; rw [h]; rfl
          have nn : ∀ s lo hi x, lo ≤ hi → fld s lo hi = some x → (fldV s lo hi == 0) = false ∧ fldV s lo hi = (x : Int) := fun s lo hi x hl h => by
            have := fld_ne s lo hi x hl h
            unfold fldV; rw [h]; simp; omega
          have HZ := Lib.hid zz
          have HN := Lib.hid nn
          clear zz nn
          have fin : ∀ W, parseE r.data.toList = none → Below w.heap.size w W → ParseTells r w (.returned (.tuple #[.agg #[.int .u64 0, .int .u64 0, .int .u64 0, .int .u64 0, .int .u64 0, .bool false, .bool false], .int .i64 25])) W := HBAD.out
          have FIN := Lib.hid fin
          clear fin
          cases f0 : fld s0.data.toList 0 59 with
          | none =>
            have e0 : (fldV s0.data.toList 0 59 == 0) = true := by rw [HZ.out _ _ _ f0]; rfl
            have hpn := Lib.hid (hpe.out.trans (five_0 f0))
            clear f0
            go_wp2_with fail
            refine bodyPost_ret (v := .tuple #[.agg #[.int .u64 0, .int .u64 0, .int .u64 0, .int .u64 0, .int .u64 0, .bool false, .bool false], .int .i64 25]) (by simp [results, Tryd.results10, go_sem, hcc, hc, hc2, hz1, hz2]) rfl (FIN.out _ hpn.out ?_)
            iterate 7 refine Below.setCell ?_ (by simp) _
            exact HBC.out
          | some x0 =>
            obtain ⟨e0, v0⟩ := HN.out _ _ _ _ (by omega) f0
            have V0 := Lib.hid v0
            have F0 := Lib.hid f0
            clear f0 v0
            cases f1 : fld s1.data.toList 0 23 with
            | none =>
              have e1 : (fldV s1.data.toList 0 23 == 0) = true := by rw [HZ.out _ _ _ f1]; rfl
              have hpn := Lib.hid (hpe.out.trans (five_1 f1))
              clear f1
              go_wp2_with fail
              refine bodyPost_ret (v := .tuple #[.agg #[.int .u64 0, .int .u64 0, .int .u64 0, .int .u64 0, .int .u64 0, .bool false, .bool false], .int .i64 25]) (by simp [results, Tryd.results10, go_sem, hcc, hc, hc2, hz1, hz2]) rfl (FIN.out _ hpn.out ?_)
              iterate 7 refine Below.setCell ?_ (by simp) _
              exact HBC.out
            | some x1 =>
              obtain ⟨e1, v1⟩ := HN.out _ _ _ _ (by omega) f1
              have V1 := Lib.hid v1
              have F1 := Lib.hid f1
              clear f1 v1
              cases f2 : fld s2.data.toList 1 31 with
              | none =>
                have e2 : (fldV s2.data.toList 1 31 == 0) = true := by rw [HZ.out _ _ _ f2]; rfl
                have hpn := Lib.hid (hpe.out.trans (five_2 f2))
                clear f2
                go_wp2_with fail
                refine bodyPost_ret (v := .tuple #[.agg #[.int .u64 0, .int .u64 0, .int .u64 0, .int .u64 0, .int .u64 0, .bool false, .bool false], .int .i64 25]) (by simp [results, Tryd.results10, go_sem, hcc, hc, hc2, hz1, hz2]) rfl (FIN.out _ hpn.out ?_)
                iterate 7 refine Below.setCell ?_ (by simp) _
                exact HBC.out
              | some x2 =>
                obtain ⟨e2, v2⟩ := HN.out _ _ _ _ (by omega) f2
                have V2 := Lib.hid v2
                have F2 := Lib.hid f2
                clear f2 v2
                cases f3 : fld s3.data.toList 1 12 with
                | none =>
                  have e3 : (fldV s3.data.toList 1 12 == 0) = true := by rw [HZ.out _ _ _ f3]; rfl
                  have hpn := Lib.hid (hpe.out.trans (five_3 f3))
                  clear f3
                  go_wp2_with fail
                  refine bodyPost_ret (v := .tuple #[.agg #[.int .u64 0, .int .u64 0, .int .u64 0, .int .u64 0, .int .u64 0, .bool false, .bool false], .int .i64 25]) (by simp [results, Tryd.results10, go_sem, hcc, hc, hc2, hz1, hz2]) rfl (FIN.out _ hpn.out ?_)
                  iterate 7 refine Below.setCell ?_ (by simp) _
                  exact HBC.out
                | some x3 =>
                  obtain ⟨e3, v3⟩ := HN.out _ _ _ _ (by omega) f3
                  have V3 := Lib.hid v3
                  have F3 := Lib.hid f3
                  clear f3 v3
                  cases f4 : fld s4.data.toList 0 6 with
                  | none =>
                    have e4 : (fldV s4.data.toList 0 6 == 0) = true := by rw [HZ.out _ _ _ f4]; rfl
                    have hpn := Lib.hid (hpe.out.trans (five_4 f4))
                    clear f4
                    go_wp2_with fail
                    refine bodyPost_ret (v := .tuple #[.agg #[.int .u64 0, .int .u64 0, .int .u64 0, .int .u64 0, .int .u64 0, .bool false, .bool false], .int .i64 25]) (by simp [results, Tryd.results10, go_sem, hcc, hc, hc2, hz1, hz2]) rfl (FIN.out _ hpn.out ?_)
                    iterate 7 refine Below.setCell ?_ (by simp) _
                    exact HBC.out
                  | some x4 =>
                    obtain ⟨e4, v4⟩ := HN.out _ _ _ _ (by omega) f4
                    have V4 := Lib.hid v4
                    have F4 := Lib.hid f4
                    clear f4 v4
                    go_wp2_with fail
                    have hpn := hpe.out.trans (five_some F0.out F1.out F2.out F3.out F4.out)
                    refine bodyPost_ret (v := .tuple #[.agg #[.int .u64 (fldV s0.data.toList 0 59), .int .u64 (fldV s1.data.toList 0 23), .int .u64 (fldV s2.data.toList 1 31), .int .u64 (fldV s3.data.toList 1 12), .int .u64 (fldV s4.data.toList 0 6), .bool (s2.toList == [42]), .bool (s4.toList == [42])], .int .i64 0]) (by simp [results, Tryd.results10, go_sem, hcc, hc, hc2, hz1, hz2]) rfl ?_
                    refine ⟨?_, Or.inr (Or.inr ⟨⟨x0, x1, x2, x3, x4, s2.data.toList == [42], s4.data.toList == [42]⟩, by omega, hpn, ok_of F0.out F1.out F2.out F3.out F4.out, ?_⟩)⟩
                    · iterate 7 refine Below.setCell ?_ (by simp) _
                      exact HBC.out
                    · rw [V0.out, V1.out, V2.out, V3.out, V4.out, ByteArray.toList_eq, ByteArray.toList_eq]
      · have hlen : ∃ a n c, v = .slice a n c ∧ n = ss.length := by
          rcases hown.2 with ⟨h, h'⟩ | ⟨g, cap, cur, h, _⟩
          · exact ⟨_, _, _, h, h'.symm⟩
          · exact ⟨_, _, _, h, rfl⟩
        obtain ⟨a, n, c, rfl, hn⟩ := hlen
        have hpn := Lib.hid (HP5.out h5)
        have hn5 : ((n : Int) == 5) = false := by simp; omega
        clear hn h5 hown hF
        go_wp2_with fail
        refine bodyPost_ret (v := .tuple #[.agg #[.int .u64 0, .int .u64 0, .int .u64 0, .int .u64 0, .int .u64 0, .bool false, .bool false], .int .i64 25]) (by simp [results, Tryd.results10, go_sem, hc, hc2, hz1]) rfl (HBAD.out _ hpn.out ?_)
        iterate 7 refine Below.setCell ?_ (by simp) _
        exact B2
end Go.Proofs.YtdmchgmcbnjelaaDoor
