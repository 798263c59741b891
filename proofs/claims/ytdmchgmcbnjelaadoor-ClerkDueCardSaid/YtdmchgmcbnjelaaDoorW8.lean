/- Walks: pieces and fields of the program. -/
import Derived.Test.YtdmchgmcbnjelaaDoorW7
namespace Go.Proofs.YtdmchgmcbnjelaaDoor
open Go.RowKit

/-- what the library's variables hold -/
structure Glob (w : World) : Prop extends Tab w where
  mx : ∃ m : Int, w.cell? ⟨3, 0, none⟩ = some (.int .i64 m)
  u8 : Lib.Utf8Tabs 0 1 w

theorem Glob.below {w w' : World} (h : Glob w) (hb : Below w.heap.size w w') : Glob w' := by
  have h3 := h.size
  refine ⟨h.toTab.below hb, ?_, ?_⟩
  · obtain ⟨m, hm⟩ := h.mx
    exact ⟨m, by rw [hb.cell (p := ⟨3, 0, none⟩) (show 3 < w.heap.size by omega)]; exact hm⟩
  · obtain ⟨a, b⟩ := h.u8
    refine ⟨fun c hc => ?_, fun i hi => ⟨?_, ?_⟩⟩
    · rw [hb.cell (p := ⟨0, c, none⟩) (show 0 < w.heap.size by omega)]; exact a c hc
    · rw [hb.cell (p := ⟨1, 2 * i, none⟩) (show 1 < w.heap.size by omega)]; exact (b i hi).1
    · rw [hb.cell (p := ⟨1, 2 * i + 1, none⟩) (show 1 < w.heap.size by omega)]; exact (b i hi).2
theorem Glob.alloc {w : World} (h : Glob w) (o : Obj) : Glob (w.alloc o) := h.below ((Below.refl _ _).alloc (Nat.le_refl _) _)
theorem Glob.drewN {w : World} (h : Glob w) (n : Nat) : Glob (w.drewN n) := h.below (below_drewN' (Below.refl _ _) n)

def U64Tells (v : Int) (w : World) (e : Ending) (w' : World) : Prop := e = .returned (.int .u64 v) ∧ Below w.heap.size w w'

def itemV (s : List UInt8) (lo hi : Int) : Int := ((itemO s lo hi).getD 0 : Nat)

theorem itemV_of (s : List UInt8) (lo hi x y : Int) (hx : numL (Lib.cut s [45]).1 = x) (hy : (if (Lib.cut s [45]).2.2 then numL (Lib.cut s [45]).2.1 else x) = y) :
    itemV s lo hi = if x < lo ∨ hi < y ∨ y < x then 0 else (spanN x.toNat y.toNat : Int) := by
  unfold itemV itemO
  simp only [hx, hy]
  split <;> rfl

theorem span_pos (a b : Int) (h : a ≤ b) : spanN a.toNat b.toNat ≠ 0 := by
  intro e
  have := spanN_bit a.toNat b.toNat a.toNat (by omega)
  rw [e] at this
  simp at this
  omega

set_option maxHeartbeats 1000000 in
theorem item_any (s : ByteArray) (lo hi : Int) (w : World) (hs : s.size ≤ 1000) (h0 : 0 ≤ lo) (h1 : lo ≤ 1) (h2 : 0 ≤ hi) (h3 : hi < 60) (hG : Glob w) :
    Calls Tryd.prog 41 #[.string s, .int .i64 lo, .int .i64 hi] w (U64Tells (itemV s.data.toList lo hi) w) := by
  have hiv := itemV_of s.data.toList lo hi
  obtain ⟨m, hm⟩ := hG.mx
  have hl1 : (Lib.cut s.data.toList [45]).1.length ≤ 1000 ∧ (Lib.cut s.data.toList [45]).2.1.length ≤ 1000 := by
    have : s.data.toList.length = s.size := by simp
    unfold Lib.cut
    split <;> simp <;> omega
  have HM := Lib.hid hm
  clear hm hG
  generalize hcut : Lib.cut s.data.toList [45] = C at *
  have HC := Lib.hid hcut
  clear hcut
  obtain ⟨a, b, two⟩ := C
  simp only at hiv hl1
  have hxb := numL_bd a
  have hyb := numL_bd b
  have HIV := Lib.hid hiv
  clear hiv
  go_enter Tryd.func41, Tryd.ntmps41
  go_wp2_with fail
  refine (Tryd.strings_Cut s ⟨#[45]⟩ m _ (by omega) HM.out).mono ?_
  rintro e w1 ⟨rfl, n1, rfl⟩
  have hcc : Lib.cut s.data.toList (ByteArray.mk #[45]).data.toList = (a, b, two) := HC.out
  rw [hcc]
  simp only
  go_wp2_with fail
  refine (number_any ⟨a.toArray⟩ _ hl1.1).mono ?_
  rintro e w2 ⟨rfl, hb2⟩
  rw [show (ByteArray.mk a.toArray).data.toList = a from rfl]
  have B2 : Below w.heap.size w w2 := (below_drewN' (Below.refl _ _) n1).trans hb2
  have hz2 := B2.size
  cases two
  · have HE := Lib.hid (HIV.out (numL a) (numL a) rfl rfl)
    generalize numL a = x at *
    by_cases c1 : x < lo
    · go_wp2_with fail
      go_ret
      exact ⟨retInt (by rw [HE.out, if_pos (Or.inl c1)]), B2⟩
    by_cases c2 : hi < x
    · go_wp2_with fail
      go_ret
      exact ⟨retInt (by rw [HE.out, if_pos (Or.inr (Or.inl c2))]), B2⟩
    go_wp2_with fail
    refine (span_any x x _ (by omega) (by omega) (by omega)).mono ?_
    rintro e w3 ⟨rfl, n3, rfl⟩
    go_wp2_with fail
    go_ret
    exact ⟨retInt (by rw [HE.out, if_neg (by omega)]), below_drewN' B2 n3⟩
  · have HE := Lib.hid (HIV.out (numL a) (numL b) rfl rfl)
    go_wp2_with fail
    refine (number_any ⟨b.toArray⟩ _ hl1.2).mono ?_
    rintro e w3 ⟨rfl, hb3⟩
    rw [show (ByteArray.mk b.toArray).data.toList = b from rfl]
    have B3 : Below w.heap.size w w3 := B2.trans (hb3.mono hz2)
    generalize numL a = x at *
    generalize numL b = y at *
    by_cases c1 : x < lo
    · go_wp2_with fail
      go_ret
      exact ⟨retInt (by rw [HE.out, if_pos (Or.inl c1)]), B3⟩
    by_cases c2 : hi < y
    · go_wp2_with fail
      go_ret
      exact ⟨retInt (by rw [HE.out, if_pos (Or.inr (Or.inl c2))]), B3⟩
    by_cases c3 : y < x
    · go_wp2_with fail
      go_ret
      exact ⟨retInt (by rw [HE.out, if_pos (Or.inr (Or.inr c3))]), B3⟩
    go_wp2_with fail
    refine (span_any x y _ (by omega) (by omega) (by omega)).mono ?_
    rintro e w3 ⟨rfl, n3, rfl⟩
    go_wp2_with fail
    go_ret
    exact ⟨retInt (by rw [HE.out, if_neg (by omega)]), below_drewN' B3 n3⟩

def fieldV (s : List UInt8) (lo hi : Int) : Int := ((fieldO lo hi (commas s) 0).getD 0 : Nat)
def starV (lo hi : Int) : Int := (spanN lo.toNat hi.toNat : Nat)

theorem fieldO_cons (lo hi : Int) (p : List UInt8) (r : List (List UInt8)) (acc : Nat) : fieldO lo hi (p :: r) acc = (itemO p lo hi).bind fun b => fieldO lo hi r (acc ||| b) := by
  conv => lhs; unfold fieldO
  cases itemO p lo hi <;> rfl

theorem fieldO_app (lo hi : Int) : ∀ (l r : List (List UInt8)) (acc : Nat), fieldO lo hi (l ++ r) acc = (fieldO lo hi l acc).bind fun a => fieldO lo hi r a
  | [], r, acc => rfl
  | p :: l, r, acc => by
    rw [List.cons_append, fieldO_cons, fieldO_cons]
    cases itemO p lo hi with
    | none => rfl
    | some b => exact fieldO_app lo hi l r _

theorem itemO_cases (p : List UInt8) (lo hi : Int) : ∃ x y : Int, itemO p lo hi = if x < lo ∨ hi < y ∨ y < x then none else some (spanN x.toNat y.toNat) := ⟨_, _, rfl⟩

theorem itemO_ne (p : List UInt8) (lo hi : Int) : itemO p lo hi ≠ some 0 := by
  obtain ⟨x, y, h⟩ := itemO_cases p lo hi
  rw [h]
  split
  · simp
  · rename_i h
    intro e
    have := Option.some.inj e
    exact span_pos _ _ (by omega) this

theorem itemO_lt (p : List UInt8) (lo hi : Int) (hh : hi < 60) (b : Nat) (h : itemO p lo hi = some b) : b < 1152921504606846976 := by
  obtain ⟨x, y, e⟩ := itemO_cases p lo hi
  rw [e] at h
  split at h
  · simp at h
  · rename_i hq
    have := Option.some.inj h
    rw [← this]
    exact spanN_lt _ _ (by omega)

theorem or_lt60 {a b : Nat} (h1 : a < 1152921504606846976) (h2 : b < 1152921504606846976) : a ||| b < 1152921504606846976 := by
  have := Nat.or_lt_two_pow (n := 60) (show a < 2 ^ 60 by simpa using h1) (show b < 2 ^ 60 by simpa using h2)
  simpa using this

theorem size_piece (s : ByteArray) : ∀ (k : Nat) (t : ByteArray), t.size ≤ s.size → ∀ x ∈ Lib.splitB ⟨#[44]⟩ 0 k t, x.size ≤ s.size
  | 0, t, ht, x, hx => by simp [Lib.splitB] at hx; subst hx; exact ht
  | k + 1, t, ht, x, hx => by
    unfold Lib.splitB at hx
    split at hx
    · simp at hx; subst hx; exact ht
    · rw [List.mem_cons] at hx
      rcases hx with rfl | hx
      · simp; omega
      · exact size_piece s k _ (by simp; omega) x hx

set_option maxHeartbeats 1000000 in
theorem field_any (s : ByteArray) (lo hi : Int) (w : World) (hs : s.size ≤ 1000) (h0 : 0 ≤ lo) (h1 : lo ≤ 1) (h2 : lo ≤ hi) (h3 : hi < 60) (hG : Glob w) :
    Calls Tryd.prog 21 #[.string s, .int .i64 lo, .int .i64 hi] w (U64Tells (if s.data.toList = [42] then starV lo hi else fieldV s.data.toList lo hi) w) := by
  by_cases hst : s.data.toList = [42]
  · rw [if_pos hst]
    obtain rfl : s = ⟨#[42]⟩ := by
      rcases s with ⟨⟨d⟩⟩
      simp at hst
      subst hst; rfl
    go_enter Tryd.func21, Tryd.ntmps21
    go_wp2_with fail
    refine (span_any lo hi _ h0 h2 h3).mono ?_
    rintro e w1 ⟨rfl, n1, rfl⟩
    go_wp2_with fail
    go_ret
    exact ⟨retInt rfl, below_drewN' (Below.refl _ _) n1⟩
  · rw [if_neg hst]
    obtain ⟨m, hm⟩ := hG.mx
    have hsplit := split_commas s
    have hlen := Lib.splitB_all ⟨#[44]⟩ (by decide) 0 _ s rfl
    have hpc := size_piece s (Lib.countB s ⟨#[44]⟩) s (Nat.le_refl _)
    obtain ⟨ss, hss⟩ : ∃ ss, Lib.splitB ⟨#[44]⟩ 0 (Lib.countB s ⟨#[44]⟩) s = ss := ⟨_, rfl⟩
    rw [hss] at hsplit hlen hpc
    have HSS := Lib.hid hss
    clear hss
    have hsz : ss.length ≤ 1001 := by
      have := Lib.countB_le ⟨#[44]⟩ (by decide) s.size s (Nat.le_refl _)
      omega
    have HS := Lib.hid hsplit
    have HPC := Lib.hid hpc
    have HM := Lib.hid hm
    have HG := Lib.hid hG
    have HL := Lib.hid hlen
    have hst' : (s.toList == [42]) = false := by
      rw [ByteArray.toList_eq, beq_eq_false_iff_ne]
      exact hst
    clear hsplit hpc hm hG hlen hst
    go_enter Tryd.func21, Tryd.ntmps21
    go_wp2_with fail
    refine (Tryd.strings_Split s ⟨#[44]⟩ m _ (by omega) HM.out (by decide)).mono ?_
    rintro e w1 ⟨rfl, rfl⟩
    rw [HSS.out, ← HL.out]
    have hcell : ∀ k : Nat, ∀ h : k < ss.length, (w.alloc (.cells (ss.map Value.string).toArray 9)).cell? ⟨w.heap.size, k, none⟩ = some (.string ss[k]) := by
      intro k h
      rw [World.cell?_alloc_at _ _ _ _ rfl]; simp [h]
    have HCELL := Lib.hid hcell
    clear hcell
    obtain ⟨W1, hW1⟩ : ∃ W1, W1 = w.alloc (.cells (ss.map Value.string).toArray 9) := ⟨_, rfl⟩
    have BW : Below w.heap.size w W1 := by rw [hW1]; exact (Below.refl _ _).alloc (Nat.le_refl _) _
    have hz1 : w.heap.size < W1.heap.size := by rw [hW1]; simp
    rw [← hW1] at HCELL ⊢
    clear hW1
    go_wp2_with fail
    go_loopw [7, 19] (fun o i wr => ∃ k acc : Nat, k ≤ ss.length ∧ i = .int .i64 k ∧ o = .int .u64 acc ∧ acc < 1152921504606846976 ∧ fieldO lo hi ((ss.take k).map (·.data.toList)) 0 = some acc ∧ Below W1.heap.size W1 wr) (fun _ i _ => ss.length - (intOf i).toNat)
    case atStart => exact ⟨0, 0, by omega, rfl, rfl, by omega, rfl, Below.refl _ _⟩
    case round =>
      obtain ⟨k, acc, hk, rfl, rfl, hacc, hf, hb⟩ := hrel
      have hzr := hb.size
      have HF := Lib.hid hf
      clear hf
      by_cases hlt : k < ss.length
      · have hc : wr.cell? ⟨w.heap.size, k, none⟩ = some (.string ss[k]) := by
          rw [hb.cell (p := ⟨w.heap.size, k, none⟩) (by simpa using hz1)]; exact HCELL.out k hlt
        have hps : ss[k].size ≤ 1000 := Nat.le_trans (HPC.out _ (List.getElem_mem hlt)) hs
        have htk := Lib.hid (List.take_succ_eq_append_getElem hlt)
        have htot : Hid (fieldO lo hi (commas s.data.toList) 0 = (fieldO lo hi ((ss.take (k + 1)).map (·.data.toList)) 0).bind fun a => fieldO lo hi ((ss.drop (k + 1)).map (·.data.toList)) a) := by
          show _ = _
          rw [← HS.out, ← fieldO_app, ← List.map_append, List.take_append_drop]
        have hstep : Hid (fieldO lo hi ((ss.take (k + 1)).map (·.data.toList)) 0 = (itemO ss[k].data.toList lo hi).bind fun b => some (acc ||| b)) := by
          show _ = _
          rw [htk.out, List.map_append, fieldO_app, HF.out]
          simp only [List.map_cons, List.map_nil, Option.bind_some, fieldO_cons]
          rfl
        generalize hp : ss[k] = p at *
        have HP := Lib.hid hp
        clear hp htk
        have hG2 : Glob wr := HG.out.below (BW.trans (hb.mono (by omega)))
        have HG2 := Lib.hid hG2
        clear hG2
        go_wp2_with fail
        refine (item_any p lo hi _ hps h0 h1 (by omega) h3 HG2.out).mono ?_
        rintro e w2 ⟨rfl, hb2⟩
        have B2 : Below W1.heap.size W1 w2 := hb.trans (hb2.mono hzr)
        unfold itemV
        cases hit : itemO p.data.toList lo hi with
        | none =>
          have HIT := Lib.hid hit
          clear hit
          simp only [Option.getD_none]
          go_wp2_with fail
          go_ret
          refine ⟨retInt ?_, BW.trans (B2.mono (by omega))⟩
          unfold fieldV
          rw [htot.out, hstep.out, HIT.out]; rfl
        | some b =>
          have hbne : b ≠ 0 := fun e => itemO_ne p.data.toList lo hi (by rw [hit, e])
          have hblt := itemO_lt _ _ _ h3 _ hit
          have HIT := Lib.hid hit
          clear hit
          simp only [Option.getD_some]
          have hb0 : ((b : Int) == 0) = false := by simp; omega
          have hor : Go.bits .or .u64 (acc : Int) (b : Int) = ((acc ||| b : Nat) : Int) := bits_or_u64_nat _ _ (by omega) (by omega)
          go_wp2_with fail
          go_roundw
          case rel => exact ⟨k + 1, acc ||| b, by omega, by go_num, rfl, or_lt60 hacc hblt, by rw [hstep.out, HIT.out]; rfl, B2⟩
          case measure => simp [intOf]; omega
      · have hks : k = ss.length := by omega
        subst hks
        go_wp2_with fail
        go_ret
        refine ⟨retInt ?_, BW.trans (hb.mono (by omega))⟩
        have := HF.out
        rw [List.take_length, HS.out] at this
        unfold fieldV
        rw [this]; rfl
end Go.Proofs.YtdmchgmcbnjelaaDoor
