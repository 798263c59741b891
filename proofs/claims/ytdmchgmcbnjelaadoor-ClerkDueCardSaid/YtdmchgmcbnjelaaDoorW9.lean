/- Walks: numbers and fields of the reference. -/
import Derived.Test.YtdmchgmcbnjelaaDoorW8
namespace Go.Proofs.YtdmchgmcbnjelaaDoor
open Go.RowKit

def loF (f : Int) : Int := if f = 2 ∨ f = 3 then 1 else 0
def hiF (f : Int) : Int := if f = 0 then 59 else if f = 1 then 23 else if f = 2 then 31 else if f = 3 then 12 else 6
theorem loF_bd (f : Int) : 0 ≤ loF f ∧ loF f ≤ 1 := by unfold loF; split <;> omega
theorem hiF_bd (f : Int) : 6 ≤ hiF f ∧ hiF f < 60 := by unfold hiF; repeat' split
                                                        all_goals omega

theorem lo0 (w : World) : (Instr.index 81 (.agg #[.int .i64 0, .int .i64 0, .int .i64 1, .int .i64 1, .int .i64 0]) (.int .i64 0)).run Tryd.prog w = .ok (.int .i64 0) w := by kernel_rfl
theorem lo1 (w : World) : (Instr.index 81 (.agg #[.int .i64 0, .int .i64 0, .int .i64 1, .int .i64 1, .int .i64 0]) (.int .i64 1)).run Tryd.prog w = .ok (.int .i64 0) w := by kernel_rfl
theorem lo2 (w : World) : (Instr.index 81 (.agg #[.int .i64 0, .int .i64 0, .int .i64 1, .int .i64 1, .int .i64 0]) (.int .i64 2)).run Tryd.prog w = .ok (.int .i64 1) w := by kernel_rfl
theorem lo3 (w : World) : (Instr.index 81 (.agg #[.int .i64 0, .int .i64 0, .int .i64 1, .int .i64 1, .int .i64 0]) (.int .i64 3)).run Tryd.prog w = .ok (.int .i64 1) w := by kernel_rfl
theorem lo4 (w : World) : (Instr.index 81 (.agg #[.int .i64 0, .int .i64 0, .int .i64 1, .int .i64 1, .int .i64 0]) (.int .i64 4)).run Tryd.prog w = .ok (.int .i64 0) w := by kernel_rfl
theorem hi0 (w : World) : (Instr.index 81 (.agg #[.int .i64 59, .int .i64 23, .int .i64 31, .int .i64 12, .int .i64 6]) (.int .i64 0)).run Tryd.prog w = .ok (.int .i64 59) w := by kernel_rfl
theorem hi1 (w : World) : (Instr.index 81 (.agg #[.int .i64 59, .int .i64 23, .int .i64 31, .int .i64 12, .int .i64 6]) (.int .i64 1)).run Tryd.prog w = .ok (.int .i64 23) w := by kernel_rfl
theorem hi2 (w : World) : (Instr.index 81 (.agg #[.int .i64 59, .int .i64 23, .int .i64 31, .int .i64 12, .int .i64 6]) (.int .i64 2)).run Tryd.prog w = .ok (.int .i64 31) w := by kernel_rfl
theorem hi3 (w : World) : (Instr.index 81 (.agg #[.int .i64 59, .int .i64 23, .int .i64 31, .int .i64 12, .int .i64 6]) (.int .i64 3)).run Tryd.prog w = .ok (.int .i64 12) w := by kernel_rfl
theorem hi4 (w : World) : (Instr.index 81 (.agg #[.int .i64 59, .int .i64 23, .int .i64 31, .int .i64 12, .int .i64 6]) (.int .i64 4)).run Tryd.prog w = .ok (.int .i64 6) w := by kernel_rfl

theorem run_lo (f : Int) (h0 : 0 ≤ f) (h1 : f < 5) (w : World) : (Instr.index 81 (.agg #[.int .i64 0, .int .i64 0, .int .i64 1, .int .i64 1, .int .i64 0]) (.int .i64 f)).run Tryd.prog w = .ok (.int .i64 (loF f)) w := by
  have : f = 0 ∨ f = 1 ∨ f = 2 ∨ f = 3 ∨ f = 4 := by omega
  rcases this with rfl | rfl | rfl | rfl | rfl
  · exact lo0 w
  · exact lo1 w
  · exact lo2 w
  · exact lo3 w
  · exact lo4 w
theorem run_hi (f : Int) (h0 : 0 ≤ f) (h1 : f < 5) (w : World) : (Instr.index 81 (.agg #[.int .i64 59, .int .i64 23, .int .i64 31, .int .i64 12, .int .i64 6]) (.int .i64 f)).run Tryd.prog w = .ok (.int .i64 (hiF f)) w := by
  have : f = 0 ∨ f = 1 ∨ f = 2 ∨ f = 3 ∨ f = 4 := by omega
  rcases this with rfl | rfl | rfl | rfl | rfl
  · exact hi0 w
  · exact hi1 w
  · exact hi2 w
  · exact hi3 w
  · exact hi4 w

set_option maxHeartbeats 400000 in
theorem lo_any (f : Int) (w : World) (h0 : 0 ≤ f) (h1 : f < 5) :
    Calls Tryd.prog 28 #[.int .i64 f] w fun e w' => e = .returned (.int .i64 (loF f)) ∧ w = w' := by
  have hi := run_lo f h0 h1
  go_enter Tryd.func28, Tryd.ntmps28
  go_wp2
  go_ret
  exact ⟨rfl, rfl⟩
set_option maxHeartbeats 400000 in
theorem hi_any (f : Int) (w : World) (h0 : 0 ≤ f) (h1 : f < 5) :
    Calls Tryd.prog 29 #[.int .i64 f] w fun e w' => e = .returned (.int .i64 (hiF f)) ∧ w = w' := by
  have hi := run_hi f h0 h1
  go_enter Tryd.func29, Tryd.ntmps29
  go_wp2
  go_ret
  exact ⟨rfl, rfl⟩

theorem spanN_snoc (a k : Nat) (h : a ≤ k) : spanN a k = (if a = k then 0 else spanN a (k - 1)) ||| 2 ^ k := by
  apply Nat.eq_of_testBit_eq
  intro i
  rw [Nat.testBit_or, spanN_bit _ _ _ (by omega), Nat.testBit_two_pow]
  split
  · rename_i e
    rw [Nat.zero_testBit, Bool.false_or]
    by_cases c1 : a ≤ i <;> by_cases c2 : i ≤ k <;> by_cases c3 : k = i <;> simp [c1, c2, c3] <;> omega
  · rw [spanN_bit _ _ _ (by omega)]
    by_cases c1 : a ≤ i <;> by_cases c2 : i ≤ k - 1 <;> by_cases c3 : k = i <;> simp [c1, c2, c3] <;> omega

set_option maxHeartbeats 400000 in
theorem rbits_any (a b : Int) (w : World) (h0 : 0 ≤ a) (h1 : a ≤ b) (h2 : b < 60) :
    Calls Tryd.prog 27 #[.int .i64 a, .int .i64 b] w fun e w' => e = .returned (.int .u64 (spanN a.toNat b.toNat)) ∧ w = w' := by
  go_enter Tryd.func27, Tryd.ntmps27
  go_wp2
  go_loop [5, 6] (fun x i => ∃ k acc : Nat, a.toNat ≤ k ∧ (k : Int) ≤ b + 1 ∧ i = .int .i64 k ∧ x = .int .u64 acc ∧ acc < 1152921504606846976 ∧ acc = if a.toNat = k then 0 else spanN a.toNat (k - 1)) (fun _ i => (b + 1 - intOf i).toNat)
  case atStart => exact ⟨a.toNat, 0, by omega, by omega, by rw [Int.toNat_of_nonneg h0], rfl, by omega, by simp⟩
  case round =>
    obtain ⟨k, acc, hk1, hk2, rfl, rfl, hacc, he⟩ := hrel
    have HE := Lib.hid he
    clear he
    by_cases hlt : (k : Int) ≤ b
    · have hp := Lib.hid (spanN_snoc a.toNat k hk1)
      have hl := spanN_lt a.toNat k (by omega)
      have h2p : IntKind.u64.wrap (2 ^ k) = ((2 ^ k : Nat) : Int) := by
        have : (2 : Nat) ^ k ≤ 2 ^ 60 := Nat.pow_le_pow_right (by decide) (by omega)
        simp only [Nat.reducePow] at this
        have e : (2 : Int) ^ k = ((2 ^ k : Nat) : Int) := by simp
        rw [e]
        generalize 2 ^ k = P at *
        rw [IntKind.wrap_u64]; omega
      have hor : Go.bits .or .u64 (acc : Int) ((2 ^ k : Nat) : Int) = ((spanN a.toNat k : Nat) : Int) := by
        have : (2 : Nat) ^ k ≤ 2 ^ 60 := Nat.pow_le_pow_right (by decide) (by omega)
        simp only [Nat.reducePow] at this
        rw [bits_or_u64_nat _ _ (by omega) (by omega), hp.out, ← HE.out]
      generalize hP : ((2 ^ k : Nat) : Int) = P at *
      clear hP
      go_wp2
      go_round
      case rel => exact ⟨k + 1, spanN a.toNat k, by omega, by omega, by go_num, rfl, hl, by rw [if_neg (by omega)]; rfl⟩
      case measure => simp [intOf]; omega
    · have hkb : k = b.toNat + 1 := by omega
      have hlt' : b < (k : Int) := by omega
      have HKB := Lib.hid hkb
      clear hkb hlt
      go_wp2
      go_ret
      refine ⟨retInt ?_, rfl⟩
      rw [HE.out, HKB.out, if_neg (by omega)]; rfl

theorem num2_of (l : List UInt8) (j : Nat) (h1 : j ≤ 2) (h2 : j ≤ l.length) (hd : ∀ c ∈ l.take j, digit c = true) (hs : j = 2 ∨ j = l.length ∨ ∃ c, l[j]? = some c ∧ digit c = false) :
    num2 l = (if j = 0 then -1 else valL (l.take j), l.drop j) := by
  match j, h1 with
  | 0, _ =>
    match l with
    | [] => rfl
    | c :: r =>
      rcases hs with h | h | ⟨c', h, h'⟩
      · omega
      · simp at h
      · simp at h; subst h; simp [num2, h']
  | 1, _ =>
    match l, h2 with
    | [c], _ =>
      have := hd c (by simp)
      simp [num2, this, valL]
    | c :: d :: r, _ =>
      have := hd c (by simp)
      rcases hs with h | h | ⟨c', h, h'⟩
      · omega
      · simp at h
      · simp at h; subst h; simp [num2, this, h', valL]
  | 2, _ =>
    match l, h2 with
    | c :: d :: r, _ =>
      have h1 := hd c (by simp)
      have h2 := hd d (by simp)
      simp [num2, h1, h2, valL]
    | [c], h => simp at h

def RNum (s : ByteArray) (at_ : Nat) (w : World) (e : Ending) (w' : World) : Prop :=
  e = .returned (.tuple #[.int .i64 (num2 (s.data.toList.drop at_)).1, .int .i64 ((s.size - (num2 (s.data.toList.drop at_)).2.length : Nat) : Int)]) ∧ w = w'

set_option maxHeartbeats 1000000 in
theorem rnumber_any (s : ByteArray) (at_ : Nat) (w : World) (hs : s.size ≤ 1000) (ha : at_ ≤ s.size) :
    Calls Tryd.prog 30 #[.string s, .int .i64 at_] w (RNum s at_ w) := by
  have hfin := num2_of (s.data.toList.drop at_)
  generalize hl : s.data.toList.drop at_ = l at *
  have hll : l.length = s.size - at_ := by rw [← hl]; simp
  have hget : ∀ j : Nat, ∀ h : at_ + j < s.size, l[j]? = some s[at_ + j] := by
    intro j h
    rw [← hl, List.getElem?_drop, List.getElem?_eq_getElem (by simpa using h)]; rfl
  have HFIN := Lib.hid hfin
  have HLL := Lib.hid hll
  have HGET := Lib.hid hget
  have HL := Lib.hid hl
  clear hfin hll hget hl
  go_enter Tryd.func30, Tryd.ntmps30
  go_wp2
  go_loop [6, 7] (fun n k => ∃ p : Nat, at_ ≤ p ∧ p ≤ at_ + 2 ∧ p ≤ s.size ∧ (∀ c ∈ l.take (p - at_), digit c = true) ∧ n = .int .i64 (valL (l.take (p - at_))) ∧ k = .int .i64 p) (fun _ k => s.size - (intOf k).toNat)
  case atStart => exact ⟨at_, by omega, by omega, by omega, by simp, by simp [valL], rfl⟩
  case round =>
    obtain ⟨p, hp1, hp2, hp3, hall, rfl, rfl⟩ := hrel
    have hvb := valL_bd _ hall (by simp; omega)
    have hend : (p = at_ + 2 ∨ p = s.size ∨ ∃ h : p < s.size, digit s[p] = false) → RNum s at_ w (.returned (.tuple #[.int .i64 (if p = at_ then -1 else valL (l.take (p - at_))), .int .i64 p])) w := by
      intro hc
      have := HFIN.out (p - at_) (by omega) (by rw [HLL.out]; omega) hall (by
        rcases hc with h | h | ⟨h, h'⟩
        · left; omega
        · right; left; rw [HLL.out]; omega
        · right; right
          have := HGET.out (p - at_) (by omega)
          refine ⟨_, this, ?_⟩
          have e : at_ + (p - at_) = p := by omega
          simp only [e]; exact h')
      unfold RNum
      rw [HL.out, this]
      refine ⟨?_, rfl⟩
      have e1 : (l.drop (p - at_)).length = s.size - p := by rw [List.length_drop, HLL.out]; omega
      simp only [e1]
      have e2 : s.size - (s.size - p) = p := by omega
      rw [e2]
      by_cases h0 : p = at_
      · rw [if_pos h0, if_pos (by omega)]
      · rw [if_neg h0, if_neg (by omega)]
    have HEND := Lib.hid hend
    have HALL := Lib.hid hall
    clear hall hend
    by_cases hlt : p < s.size
    · have hb : 0 ≤ (s[p].toNat : Int) ∧ (s[p].toNat : Int) < 256 := ⟨by omega, by have := s[p].toNat_lt; omega⟩
      by_cases h2 : p < at_ + 2
      · have h2' : (p : Int) < (at_ : Int) + 2 := by omega
        cases hd : digit s[p]
        · have hd' : ((s[p].toNat : Int) < 48) ∨ ((57 : Int) < s[p].toNat ∧ ¬ (s[p].toNat : Int) < 48) := by
            unfold digit at hd; simp at hd; omega
          have HD := Lib.hid hd
          clear hd
          by_cases h0 : p = at_
          · have h0' : ((p : Int) == (at_ : Int)) = true := by simp [h0]
            have H0 := Lib.hid h0
            clear h0
            rcases hd' with hd' | ⟨hd', hd''⟩
            all_goals
              go_wp2
              go_ret2
              have := HEND.out (Or.inr (Or.inr ⟨hlt, HD.out⟩))
              rw [if_pos H0.out] at this
              have e : (at_ : Int) = (p : Int) := by have := H0.out; omega
              rw [e]
              exact this
          · have h0' : ((p : Int) == (at_ : Int)) = false := by simp; omega
            have H0 := Lib.hid h0
            clear h0
            rcases hd' with hd' | ⟨hd', hd''⟩
            all_goals
              go_wp2
              go_ret2
              have := HEND.out (Or.inr (Or.inr ⟨hlt, HD.out⟩))
              rw [if_neg H0.out] at this
              exact this
        · have hd' : ¬ (s[p].toNat : Int) < 48 ∧ ¬ (57 : Int) < s[p].toNat := by
            unfold digit at hd; simp at hd; omega
          obtain ⟨hd1, hd2⟩ := hd'
          have htk : Hid (l.take (p + 1 - at_) = l.take (p - at_) ++ [s[p]]) := by
            show _ = _
            have hj : p - at_ < l.length := by rw [HLL.out]; omega
            have hg := HGET.out (p - at_) (by omega)
            rw [show p + 1 - at_ = p - at_ + 1 from by omega, List.take_succ_eq_append_getElem hj]
            rw [List.getElem?_eq_getElem hj] at hg
            have e : at_ + (p - at_) = p := by omega
            simp only [e] at hg
            rw [Option.some.inj hg]
          have HD := Lib.hid hd
          clear hd
          go_wp2
          go_round
          case rel =>
            refine ⟨p + 1, by omega, by omega, by omega, ?_, ?_, by go_num⟩
            · intro c hc
              rw [htk.out, List.mem_append] at hc
              rcases hc with hc | hc
              · exact HALL.out c hc
              · simp at hc; subst hc; exact HD.out
            · rw [htk.out, valL_snoc]; rfl
          case measure => simp [intOf]; omega
      · have h0 : p ≠ at_ := by omega
        have h0' : ((p : Int) == (at_ : Int)) = false := by simp; omega
        have h2' : ¬ (p : Int) < (at_ : Int) + 2 := by omega
        have HEQ := Lib.hid (show p = at_ + 2 by omega)
        have H0 := Lib.hid h0
        clear h0
        go_wp2
        go_ret2
        have := HEND.out (Or.inl HEQ.out)
        rw [if_neg H0.out] at this
        exact this
    · have HEQ := Lib.hid (show p = s.size by omega)
      by_cases h0 : p = at_
      · have h0' : ((p : Int) == (at_ : Int)) = true := by simp [h0]
        have H0 := Lib.hid h0
        clear h0
        go_wp2
        go_ret2
        have := HEND.out (Or.inr (Or.inl HEQ.out))
        rw [if_pos H0.out] at this
        have e : (at_ : Int) = (p : Int) := by have := H0.out; omega
        rw [e]
        exact this
      · have h0' : ((p : Int) == (at_ : Int)) = false := by simp; omega
        have H0 := Lib.hid h0
        clear h0
        go_wp2
        go_ret2
        have := HEND.out (Or.inr (Or.inl HEQ.out))
        rw [if_neg H0.out] at this
        exact this
end Go.Proofs.YtdmchgmcbnjelaaDoor
