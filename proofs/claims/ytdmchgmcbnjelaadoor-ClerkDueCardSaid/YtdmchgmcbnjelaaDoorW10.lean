/- Walks: the fields of the reference. -/
import Derived.Test.YtdmchgmcbnjelaaDoorW9
namespace Go.Proofs.YtdmchgmcbnjelaaDoor
open Go.RowKit

theorem num2_suffix (l : List UInt8) : (num2 l).2 = l.drop (l.length - (num2 l).2.length) := by
  match l with
  | [] => rfl
  | [c] =>
    by_cases hc : digit c = true
    · simp [num2, hc]
    · simp [num2, hc]
  | c :: d :: p' =>
    by_cases hc : digit c = true
    · by_cases hd : digit d = true
      · have e : p'.length + 1 + 1 - p'.length = 2 := by omega
        simp [num2, hc, hd, e]
      · simp [num2, hc, hd]
    · simp [num2, hc]

theorem num2_bd (l : List UInt8) : -1 ≤ (num2 l).1 ∧ (num2 l).1 ≤ 99 := by
  match l with
  | [] => simp [num2]
  | [c] =>
    by_cases hc : digit c = true
    · have := dv_bd hc; simp [num2, hc]; omega
    · simp [num2, hc]
  | c :: d :: p' =>
    by_cases hc : digit c = true
    · have h1 := dv_bd hc
      by_cases hd : digit d = true
      · have := dv_bd hd; simp [num2, hc, hd]; omega
      · simp [num2, hc, hd]; omega
    · simp [num2, hc]

theorem drop_of_num2 (s : ByteArray) (p : Nat) (hp : p ≤ s.size) : (num2 (s.data.toList.drop p)).2 = s.data.toList.drop (s.size - (num2 (s.data.toList.drop p)).2.length) ∧ p ≤ s.size - (num2 (s.data.toList.drop p)).2.length := by
  have h := num2_suffix (s.data.toList.drop p)
  have hl := num2_length (s.data.toList.drop p)
  have hd : (s.data.toList.drop p).length = s.size - p := by simp
  rw [hd] at hl h
  refine ⟨?_, by omega⟩
  conv => lhs; rw [h]
  rw [List.drop_drop]
  congr 1
  omega

theorem drop_cons (s : ByteArray) (k : Nat) (h : k < s.size) : s.data.toList.drop k = s[k] :: s.data.toList.drop (k + 1) := by
  rw [List.drop_eq_getElem_cons (by simpa using h)]; rfl

def fOk (s : List UInt8) (lo hi : Int) : Bool := (fieldO lo hi (commas s) 0).isSome

def RField (s : ByteArray) (lo hi : Int) (w : World) (e : Ending) (w' : World) : Prop :=
  e = .returned (.tuple #[.int .u64 (fieldV s.data.toList lo hi), .bool false, .bool (fOk s.data.toList lo hi)]) ∧ w = w'

theorem rfield_none {s : ByteArray} {lo hi : Int} {w : World} (h : fieldO lo hi (commas s.data.toList) 0 = none) :
    RField s lo hi w (.returned (.tuple #[.int .u64 0, .bool false, .bool false])) w := by
  unfold RField fieldV fOk; rw [h]; exact ⟨rfl, rfl⟩
theorem rfield_some {s : ByteArray} {lo hi : Int} {w : World} {x : Nat} (h : fieldO lo hi (commas s.data.toList) 0 = some x) :
    RField s lo hi w (.returned (.tuple #[.int .u64 x, .bool false, .bool true])) w := by
  unfold RField fieldV fOk; rw [h]; exact ⟨rfl, rfl⟩

set_option maxHeartbeats 400000 in
theorem rfield_star (f : Int) (w : World) (h0 : 0 ≤ f) (h1 : f < 5) :
    Calls Tryd.prog 14 #[.string ⟨#[42]⟩, .int .i64 f] w fun e w' => e = .returned (.tuple #[.int .u64 (starV (loF f) (hiF f)), .bool true, .bool true]) ∧ w = w' := by
  have l1 := loF_bd f
  have l2 := hiF_bd f
  go_enter Tryd.func14, Tryd.ntmps14
  go_wp2_with fail
  refine (lo_any f _ h0 h1).mono ?_
  rintro e w1 ⟨rfl, rfl⟩
  go_wp2_with fail
  refine (hi_any f _ h0 h1).mono ?_
  rintro e w1 ⟨rfl, rfl⟩
  go_wp2_with fail
  refine (rbits_any (loF f) (hiF f) _ (by omega) (by omega) (by omega)).mono ?_
  rintro e w1 ⟨rfl, rfl⟩
  go_wp2_with fail
  go_ret3
  exact ⟨rfl, rfl⟩

set_option maxHeartbeats 2000000 in
theorem rfield_any (s : ByteArray) (f : Int) (w : World) (hs : s.size ≤ 1000) (hst : s.data.toList ≠ [42]) (h0 : 0 ≤ f) (h1 : f < 5) :
    Calls Tryd.prog 14 #[.string s, .int .i64 f] w (RField s (loF f) (hiF f) w) := by
  have l1 := loF_bd f
  have l2 := hiF_bd f
  have hst' : (s.toList == [42]) = false := by
    rw [ByteArray.toList_eq, beq_eq_false_iff_ne]
    exact hst
  clear hst
  obtain ⟨lo, hlo⟩ : ∃ lo, loF f = lo := ⟨_, rfl⟩
  obtain ⟨hi, hhi⟩ : ∃ hi, hiF f = hi := ⟨_, rfl⟩
  have LO : ∀ w, Calls Tryd.prog 28 #[.int .i64 f] w fun e w' => e = .returned (.int .i64 lo) ∧ w = w' := by rw [← hlo]; exact fun w => lo_any f w h0 h1
  have HI : ∀ w, Calls Tryd.prog 29 #[.int .i64 f] w fun e w' => e = .returned (.int .i64 hi) ∧ w = w' := by rw [← hhi]; exact fun w => hi_any f w h0 h1
  rw [hlo, hhi]
  rw [hlo] at l1
  rw [hhi] at l2
  have HLO := Lib.hid LO
  have HHI := Lib.hid HI
  clear LO HI hlo hhi
  go_enter Tryd.func14, Tryd.ntmps14
  go_wp2_with fail
  go_loop [7, 8] (fun x i => ∃ p acc : Nat, p ≤ s.size ∧ i = .int .i64 p ∧ x = .int .u64 acc ∧ acc < 1152921504606846976 ∧ fieldO lo hi (commas (s.data.toList.drop p)) acc = fieldO lo hi (commas s.data.toList) 0) (fun _ i => s.size - (intOf i).toNat)
  case atStart => exact ⟨0, 0, by omega, rfl, rfl, by omega, rfl⟩
  case round =>
    obtain ⟨p, acc, hp, rfl, rfl, hacc, hT⟩ := hrel
    have hT2 : fieldO lo hi (commas s.data.toList) 0 = scanO lo hi (s.size + 1 + 1) (s.data.toList.drop p) acc := by
      rw [scan_eq lo hi l1.1 _ _ _ (by simp; omega)]; exact hT.symm
    rw [scanO_succ] at hT2
    obtain ⟨hd1, hd2⟩ := drop_of_num2 s p hp
    obtain ⟨v, hv⟩ : ∃ v, (num2 (s.data.toList.drop p)).1 = v := ⟨_, rfl⟩
    obtain ⟨k, hk⟩ : ∃ k, s.size - (num2 (s.data.toList.drop p)).2.length = k := ⟨_, rfl⟩
    have hvb : -1 ≤ v ∧ v ≤ 99 := by rw [← hv]; exact num2_bd _
    have hnum : ∀ w, Calls Tryd.prog 30 #[.string s, .int .i64 p] w fun e w' => e = .returned (.tuple #[.int .i64 v, .int .i64 k]) ∧ w = w' := by
      intro w
      have := rnumber_any s p w hs hp
      unfold RNum at this
      rw [hv, hk] at this
      exact this
    rw [hk] at hd1 hd2
    rw [hv, hd1] at hT2
    have hk2 : k ≤ s.size := by omega
    have HNUM := Lib.hid hnum
    have HT2 := Lib.hid hT2
    clear hT hT2 hnum hv hk hd1
    go_wp2_with fail
    refine (HNUM.out _).mono ?_
    rintro e w1 ⟨rfl, rfl⟩
    have hbr : (∃ h : k < s.size, s[k] = 45) ∨ ((∃ h : k < s.size, ¬ s[k] = 45) ∨ k = s.size) := by
      by_cases h : k < s.size
      · by_cases h' : s[k] = 45
        · exact Or.inl ⟨h, h'⟩
        · exact Or.inr (Or.inl ⟨h, h'⟩)
      · exact Or.inr (Or.inr (by omega))
    rcases hbr with ⟨h45, h45'⟩ | hbr
    · obtain ⟨hd3, hd4⟩ := drop_of_num2 s (k + 1) (by omega)
      obtain ⟨b, hb⟩ : ∃ b, (num2 (s.data.toList.drop (k + 1))).1 = b := ⟨_, rfl⟩
      obtain ⟨k2, hkk⟩ : ∃ k2, s.size - (num2 (s.data.toList.drop (k + 1))).2.length = k2 := ⟨_, rfl⟩
      have hbb : -1 ≤ b ∧ b ≤ 99 := by rw [← hb]; exact num2_bd _
      have hnum : ∀ w, Calls Tryd.prog 30 #[.string s, .int .i64 ((k + 1 : Nat) : Int)] w fun e w' => e = .returned (.tuple #[.int .i64 b, .int .i64 k2]) ∧ w = w' := by
        intro w
        have := rnumber_any s (k + 1) w hs (by omega)
        unfold RNum at this
        rw [hb, hkk] at this
        exact this
      have hT3 := HT2.out
      rw [drop_cons s k h45, h45', dash1_45, dash2_45, hb, hd3, hkk] at hT3
      rw [hkk] at hd4
      have hk3 : k2 ≤ s.size := by omega
      have hk4 : k ≤ k2 := by omega
      have hc45 : (((s[k]).toNat : Int) == 45) = true := by rw [h45']; rfl
      have HN := Lib.hid hnum
      have HT3 := Lib.hid hT3
      clear hT3 hnum hb hkk hd3 hd4 HNUM HT2 h45'
      go_wp2_with fail
      have HN' := HN.out
      rw [Int.natCast_add] at HN'
      refine (HN' _).mono ?_
      clear HN' HN hc45
      rintro e w1 ⟨rfl, rfl⟩
      go_wp2_with fail
      refine (HLO.out _).mono ?_
      rintro e w1 ⟨rfl, rfl⟩
      by_cases c1 : v < lo
      · go_wp2_with fail
        go_ret3
        exact rfield_none (by rw [HT3.out, if_pos (Or.inl c1)])
      go_wp2_with fail
      refine (HHI.out _).mono ?_
      rintro e w1 ⟨rfl, rfl⟩
      by_cases c2 : hi < b
      · go_wp2_with fail
        go_ret3
        exact rfield_none (by rw [HT3.out, if_pos (Or.inr (Or.inl c2))])
      by_cases c3 : b < v
      · go_wp2_with fail
        go_ret3
        exact rfield_none (by rw [HT3.out, if_pos (Or.inr (Or.inr c3))])
      go_wp2_with fail
      refine (rbits_any v b _ (by omega) (by omega) (by omega)).mono ?_
      rintro e w1 ⟨rfl, rfl⟩
      have hT4 := HT3.out
      rw [if_neg (by omega)] at hT4
      have hlt := spanN_lt v.toNat (b).toNat (by omega)
      have hor : Go.bits .or .u64 (acc : Int) ((spanN v.toNat (b).toNat : Nat) : Int) = ((acc ||| spanN v.toNat (b).toNat : Nat) : Int) := bits_or_u64_nat _ _ (by omega) (by omega)
      have hacc2 := or_lt60 hacc hlt
      generalize acc ||| spanN v.toNat (b).toNat = acc2 at *
      clear HT3
      by_cases c4 : k2 < s.size
      · rw [drop_cons s k2 c4] at hT4
        have hkne : ((k2 : Int) == (s.size : Int)) = false := by simp; omega
        by_cases c5 : s[k2] = 44
        · have hc44 : (((s[k2]).toNat : Int) == 44) = true := by rw [c5]; rfl
          have hT5 : fieldO lo hi (commas s.data.toList) 0 = fieldO lo hi (commas (s.data.toList.drop (k2 + 1))) acc2 := by
            rw [hT4, c5]
            show scanO lo hi (s.size + 1) _ _ = _
            exact scan_eq lo hi l1.1 _ _ _ (by simp; omega)
          have HT5 := Lib.hid hT5
          clear hT4 hT5 c5
          go_wp2_with fail
          go_round
          case rel => exact ⟨k2 + 1, acc2, by omega, by go_num, rfl, hacc2, HT5.out.symm⟩
          case measure => simp [intOf]; omega
        · have hc44 : (((s[k2]).toNat : Int) == 44) = false := by
            rw [beq_eq_false_iff_ne]
            intro e
            apply c5
            apply UInt8.toNat_inj.1
            have : (44 : UInt8).toNat = 44 := rfl
            omega
          have hT5 : fieldO lo hi (commas s.data.toList) 0 = none := by rw [hT4, after44_no _ _ _ _ _ _ c5]
          have HT5 := Lib.hid hT5
          clear hT4 hT5 c5
          go_wp2_with fail
          go_ret3
          exact rfield_none HT5.out
      · have hkk : k2 = s.size := by omega
        have hkne : ((k2 : Int) == (s.size : Int)) = true := by simp; omega
        have hT5 : fieldO lo hi (commas s.data.toList) 0 = some acc2 := by
          rw [hT4, hkk, List.drop_of_length_le (by simp)]; rfl
        have HT5 := Lib.hid hT5
        clear hT4 hT5 hkk
        go_wp2_with fail
        go_ret3
        exact rfield_some HT5.out
    · have hT3 := HT2.out
      have hdash : ∀ r, s.data.toList.drop k ≠ 45 :: r := by
        intro r hr
        rcases hbr with ⟨h, h'⟩ | h
        · rw [drop_cons s k h] at hr
          exact h' (List.cons.inj hr).1
        · rw [List.drop_of_length_le (by simp; omega)] at hr
          simp at hr
      rw [dash1_no _ _ hdash, dash2_no _ hdash] at hT3
      have HT3 := Lib.hid hT3
      clear hT3 HT2 HNUM hdash
      have hv1 := hvb
      rcases hbr with ⟨h45, h45'⟩ | hks
      · have hc45 : (((s[k]).toNat : Int) == 45) = false := by
          rw [beq_eq_false_iff_ne]
          intro e
          apply h45'
          apply UInt8.toNat_inj.1
          have : (45 : UInt8).toNat = 45 := rfl
          omega
        clear h45'
        go_wp2_with fail
        refine (HLO.out _).mono ?_
        rintro e w1 ⟨rfl, rfl⟩
        by_cases c1 : v < lo
        · go_wp2_with fail
          go_ret3
          exact rfield_none (by rw [HT3.out, if_pos (Or.inl c1)])
        go_wp2_with fail
        refine (HHI.out _).mono ?_
        rintro e w1 ⟨rfl, rfl⟩
        by_cases c2 : hi < v
        · go_wp2_with fail
          go_ret3
          exact rfield_none (by rw [HT3.out, if_pos (Or.inr (Or.inl c2))])
        by_cases c3 : v < v
        · go_wp2_with fail
          go_ret3
          exact rfield_none (by rw [HT3.out, if_pos (Or.inr (Or.inr c3))])
        go_wp2_with fail
        refine (rbits_any v v _ (by omega) (by omega) (by omega)).mono ?_
        rintro e w1 ⟨rfl, rfl⟩
        have hT4 := HT3.out
        rw [if_neg (by omega)] at hT4
        have hlt := spanN_lt v.toNat (v).toNat (by omega)
        have hor : Go.bits .or .u64 (acc : Int) ((spanN v.toNat (v).toNat : Nat) : Int) = ((acc ||| spanN v.toNat (v).toNat : Nat) : Int) := bits_or_u64_nat _ _ (by omega) (by omega)
        have hacc2 := or_lt60 hacc hlt
        generalize acc ||| spanN v.toNat (v).toNat = acc2 at *
        clear HT3
        by_cases c4 : k < s.size
        · rw [drop_cons s k c4] at hT4
          have hkne : ((k : Int) == (s.size : Int)) = false := by simp; omega
          by_cases c5 : s[k] = 44
          · have hc44 : (((s[k]).toNat : Int) == 44) = true := by rw [c5]; rfl
            have hT5 : fieldO lo hi (commas s.data.toList) 0 = fieldO lo hi (commas (s.data.toList.drop (k + 1))) acc2 := by
              rw [hT4, c5]
              show scanO lo hi (s.size + 1) _ _ = _
              exact scan_eq lo hi l1.1 _ _ _ (by simp; omega)
            have HT5 := Lib.hid hT5
            clear hT4 hT5 c5
            go_wp2_with fail
            go_round
            case rel => exact ⟨k + 1, acc2, by omega, by go_num, rfl, hacc2, HT5.out.symm⟩
            case measure => simp [intOf]; omega
          · have hc44 : (((s[k]).toNat : Int) == 44) = false := by
              rw [beq_eq_false_iff_ne]
              intro e
              apply c5
              apply UInt8.toNat_inj.1
              have : (44 : UInt8).toNat = 44 := rfl
              omega
            have hT5 : fieldO lo hi (commas s.data.toList) 0 = none := by rw [hT4, after44_no _ _ _ _ _ _ c5]
            have HT5 := Lib.hid hT5
            clear hT4 hT5 c5
            go_wp2_with fail
            go_ret3
            exact rfield_none HT5.out
        · have hkk : k = s.size := by omega
          have hkne : ((k : Int) == (s.size : Int)) = true := by simp; omega
          have hT5 : fieldO lo hi (commas s.data.toList) 0 = some acc2 := by
            rw [hT4, hkk, List.drop_of_length_le (by simp)]; rfl
          have HT5 := Lib.hid hT5
          clear hT4 hT5 hkk
          go_wp2_with fail
          go_ret3
          exact rfield_some HT5.out
      · have hk6 : ¬ (k : Int) < (s.size : Int) := by omega
        have HKS := Lib.hid hks
        clear hks
        go_wp2_with fail
        refine (HLO.out _).mono ?_
        rintro e w1 ⟨rfl, rfl⟩
        by_cases c1 : v < lo
        · go_wp2_with fail
          go_ret3
          exact rfield_none (by rw [HT3.out, if_pos (Or.inl c1)])
        go_wp2_with fail
        refine (HHI.out _).mono ?_
        rintro e w1 ⟨rfl, rfl⟩
        by_cases c2 : hi < v
        · go_wp2_with fail
          go_ret3
          exact rfield_none (by rw [HT3.out, if_pos (Or.inr (Or.inl c2))])
        by_cases c3 : v < v
        · go_wp2_with fail
          go_ret3
          exact rfield_none (by rw [HT3.out, if_pos (Or.inr (Or.inr c3))])
        go_wp2_with fail
        refine (rbits_any v v _ (by omega) (by omega) (by omega)).mono ?_
        rintro e w1 ⟨rfl, rfl⟩
        have hT4 := HT3.out
        rw [if_neg (by omega)] at hT4
        have hlt := spanN_lt v.toNat (v).toNat (by omega)
        have hor : Go.bits .or .u64 (acc : Int) ((spanN v.toNat (v).toNat : Nat) : Int) = ((acc ||| spanN v.toNat (v).toNat : Nat) : Int) := bits_or_u64_nat _ _ (by omega) (by omega)
        have hacc2 := or_lt60 hacc hlt
        generalize acc ||| spanN v.toNat (v).toNat = acc2 at *
        clear HT3
        by_cases c4 : k < s.size
        · exact absurd c4 (by have := HKS.out; omega)
        · have hkk : k = s.size := HKS.out
          have hkne : ((k : Int) == (s.size : Int)) = true := by simp; omega
          have hT5 : fieldO lo hi (commas s.data.toList) 0 = some acc2 := by
            rw [hT4, hkk, List.drop_of_length_le (by simp)]; rfl
          have HT5 := Lib.hid hT5
          clear hT4 hT5 hkk
          go_wp2_with fail
          go_ret3
          exact rfield_some HT5.out
end Go.Proofs.YtdmchgmcbnjelaaDoor
