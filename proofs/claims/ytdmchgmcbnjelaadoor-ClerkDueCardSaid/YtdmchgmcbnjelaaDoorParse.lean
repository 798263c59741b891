/- Plain facts: the text of a field, cut at commas, against the same text read from the left. -/
import Derived.Lib.SplitLaws
import Derived.Lib.CutLaws
import Derived.Test.YtdmchgmcbnjelaaDoorBits
namespace Go.Proofs.YtdmchgmcbnjelaaDoor

def digit (c : UInt8) : Bool := decide (48 ≤ c.toNat) && decide (c.toNat ≤ 57)
def dv (c : UInt8) : Int := (c.toNat : Int) - 48
theorem dv_bd {c : UInt8} (h : digit c = true) : 0 ≤ dv c ∧ dv c ≤ 9 := by unfold digit at h; unfold dv; simp at h; omega

/-- a text of one or two digits; -1: it is none -/
def numL : List UInt8 → Int
  | [c] => if digit c then dv c else -1
  | [c, d] => if digit c && digit d then 10 * dv c + dv d else -1
  | _ => -1

theorem numL_bd (l : List UInt8) : -1 ≤ numL l ∧ numL l ≤ 99 := by
  unfold numL
  split
  · split
    · rename_i h; have := dv_bd h; omega
    · omega
  · split
    · rename_i h; simp at h; have := dv_bd h.1; have := dv_bd h.2; omega
    · omega
  · omega

/-- a piece between commas -/
def itemO (p : List UInt8) (lo hi : Int) : Option Nat :=
  let x := numL (Lib.cut p [45]).1
  let y := if (Lib.cut p [45]).2.2 then numL (Lib.cut p [45]).2.1 else x
  if x < lo ∨ hi < y ∨ y < x then none else some (spanN x.toNat y.toNat)

def fieldO (lo hi : Int) : List (List UInt8) → Nat → Option Nat
  | [], acc => some acc
  | p :: r, acc => match itemO p lo hi with
    | none => none
    | some b => fieldO lo hi r (acc ||| b)

/-- cut at commas -/
def commas : List UInt8 → List (List UInt8)
  | [] => [[]]
  | c :: r => if c = 44 then [] :: commas r else match commas r with
    | [] => [[c]]
    | p :: q => (c :: p) :: q

theorem commas_ne (l : List UInt8) : commas l ≠ [] := by
  cases l with
  | nil => simp [commas]
  | cons c r =>
    unfold commas
    split
    · simp
    · split <;> simp

/-- digits at the head, two at most: what they say (-1: none), and what is left -/
def num2 : List UInt8 → Int × List UInt8
  | [] => (-1, [])
  | c :: r => if digit c then (match r with
      | [] => (dv c, [])
      | d :: r' => if digit d then (10 * dv c + dv d, r') else (dv c, d :: r')) else (-1, c :: r)

theorem num2_length (l : List UInt8) : (num2 l).2.length ≤ l.length := by
  unfold num2
  repeat' split
  all_goals simp
  all_goals omega

/-- the text read from the left -/
def scanO (lo hi : Int) : Nat → List UInt8 → Nat → Option Nat
  | 0, _, _ => none
  | f + 1, s, acc =>
    let a := (num2 s).1
    let r1 := (num2 s).2
    let b := match r1 with | 45 :: r => (num2 r).1 | _ => a
    let r2 := match r1 with | 45 :: r => (num2 r).2 | _ => r1
    if a < lo ∨ hi < b ∨ b < a then none else match r2 with
      | [] => some (acc ||| spanN a.toNat b.toNat)
      | c :: r3 => if c = 44 then scanO lo hi f r3 (acc ||| spanN a.toNat b.toNat) else none

theorem index_one (c : UInt8) : ∀ (l : List UInt8), (c ∉ l → Lib.index l [c] = -1) ∧ (∀ a b, l = a ++ c :: b → c ∉ a → Lib.index l [c] = a.length)
  | [] => ⟨fun _ => rfl, fun a b h => by simp at h⟩
  | x :: l => by
    have ih := index_one c l
    constructor
    · intro h
      simp at h
      unfold Lib.index
      have : ([c].isPrefixOf (x :: l)) = false := by simp [List.isPrefixOf]; exact h.1
      rw [this, ih.1 h.2]; rfl
    · intro a b h hn
      cases a with
      | nil =>
        simp at h
        unfold Lib.index
        rw [h.1]; simp [List.isPrefixOf]
      | cons y a =>
        simp at h hn
        unfold Lib.index
        have : ([c].isPrefixOf (x :: l)) = false := by simp [List.isPrefixOf]; rw [h.1]; exact hn.1
        have h2 := ih.2 a b h.2 hn.2
        rw [this, h2]
        have hne : ((a.length : Int) == -1) = false := by simp
        simp [hne]

theorem cut_none (p : List UInt8) (c : UInt8) (h : c ∉ p) : Lib.cut p [c] = (p, [], false) := by
  unfold Lib.cut; rw [(index_one c p).1 h]; rfl
theorem cut_some (a b : List UInt8) (c : UInt8) (h : c ∉ a) : Lib.cut (a ++ c :: b) [c] = (a, b, true) := by
  unfold Lib.cut; rw [(index_one c _).2 a b rfl h]; simp

theorem mem_split (c : UInt8) : ∀ (l : List UInt8), c ∈ l → ∃ a b, l = a ++ c :: b ∧ c ∉ a
  | [], h => by simp at h
  | x :: l, h => by
    by_cases e : x = c
    · exact ⟨[], l, by simp [e], by simp⟩
    · obtain ⟨a, b, h1, h2⟩ := mem_split c l (by simpa [Ne.symm e] using h)
      exact ⟨x :: a, b, by simp [h1], by simp [h2, Ne.symm e]⟩

theorem digit_ne {c d : UInt8} (h : digit c = true) (hd : digit d = false) : c ≠ d := fun e => by rw [e, hd] at h; exact absurd h (by simp)

/-- read from the left, a piece without commas -/
theorem num2_app (p t : List UInt8) (ht : t = [] ∨ ∃ c r, t = c :: r ∧ digit c = false) : num2 (p ++ t) = ((num2 p).1, (num2 p).2 ++ t) := by
  match p with
  | [] =>
    rcases ht with rfl | ⟨c, r, rfl, h⟩
    · rfl
    · simp [num2, h]
  | [c] =>
    rcases ht with rfl | ⟨d, r, rfl, h⟩
    · simp
    · by_cases hc : digit c = true
      · simp [num2, h, hc]
      · simp [num2, hc]
  | c :: d :: p' =>
    by_cases hc : digit c = true
    · by_cases hd : digit d = true
      · simp [num2, hc, hd]
      · simp [num2, hc, hd]
    · simp [num2, hc]

theorem num2_spec (p : List UInt8) : ((num2 p).2 = [] → numL p = (num2 p).1) ∧ ((num2 p).2 ≠ [] → numL p = -1) := by
  match p with
  | [] => exact ⟨fun _ => rfl, fun h => absurd rfl h⟩
  | [c] =>
    by_cases hc : digit c = true
    · simp [num2, numL, hc]
    · simp [num2, numL, hc]
  | [c, d] =>
    by_cases hc : digit c = true
    · by_cases hd : digit d = true
      · simp [num2, numL, hc, hd]
      · simp [num2, numL, hc, hd]
    · simp [num2, numL, hc]
  | c :: d :: e :: p' =>
    by_cases hc : digit c = true
    · by_cases hd : digit d = true
      · simp [num2, numL, hc, hd]
      · simp [num2, numL, hc, hd]
    · simp [num2, numL, hc]

theorem num2_mem (p : List UInt8) (x : UInt8) (h : x ∈ (num2 p).2) : x ∈ p := by
  match p with
  | [] => exact h
  | [c] =>
    by_cases hc : digit c = true
    · simp [num2, hc] at h
    · simpa [num2, hc] using h
  | c :: d :: p' =>
    by_cases hc : digit c = true
    · by_cases hd : digit d = true
      · simp [num2, hc, hd] at h; simp [h]
      · simp [num2, hc, hd] at h; rcases h with h | h <;> simp [h]
    · simpa [num2, hc] using h

theorem d45 : digit 45 = false := by decide
theorem d44 : digit 44 = false := by decide

def goOn (lo hi : Int) (f : Nat) (t : List UInt8) (acc : Nat) : Option Nat := match t with | [] => some acc | _ :: r => scanO lo hi f r acc
def dash1 (a : Int) (r1 : List UInt8) : Int := match r1 with | 45 :: r => (num2 r).1 | _ => a
def dash2 (r1 : List UInt8) : List UInt8 := match r1 with | 45 :: r => (num2 r).2 | _ => r1
def after44 (lo hi : Int) (f : Nat) (r2 : List UInt8) (acc : Nat) : Option Nat := match r2 with
      | [] => some acc
      | c :: r3 => if c = 44 then scanO lo hi f r3 acc else none
theorem scanO_succ (lo hi : Int) (f : Nat) (s : List UInt8) (acc : Nat) : scanO lo hi (f + 1) s acc =
    if (num2 s).1 < lo ∨ hi < dash1 (num2 s).1 (num2 s).2 ∨ dash1 (num2 s).1 (num2 s).2 < (num2 s).1 then none else after44 lo hi f (dash2 (num2 s).2) (acc ||| spanN (num2 s).1.toNat (dash1 (num2 s).1 (num2 s).2).toNat) := rfl
theorem dash1_45 (a : Int) (r : List UInt8) : dash1 a (45 :: r) = (num2 r).1 := rfl
theorem dash2_45 (r : List UInt8) : dash2 (45 :: r) = (num2 r).2 := rfl
theorem dash1_no (a : Int) (t : List UInt8) (h : ∀ r, t ≠ 45 :: r) : dash1 a t = a := by
  unfold dash1; split
  · rename_i r; exact absurd rfl (h r)
  · rfl
theorem dash2_no (t : List UInt8) (h : ∀ r, t ≠ 45 :: r) : dash2 t = t := by
  unfold dash2; split
  · rename_i r; exact absurd rfl (h r)
  · rfl
theorem after44_no (lo hi : Int) (f : Nat) (c : UInt8) (r : List UInt8) (acc : Nat) (h : c ≠ 44) : after44 lo hi f (c :: r) acc = none := by
  unfold after44; simp [h]

/-- one piece: t is what stands behind it: nothing, or a comma and more -/
theorem scan_piece (lo hi : Int) (hlo : 0 ≤ lo) (f acc : Nat) (p t : List UInt8) (hp : 44 ∉ p) (ht : t = [] ∨ ∃ r, t = 44 :: r) :
    scanO lo hi (f + 1) (p ++ t) acc = (itemO p lo hi).bind fun b => goOn lo hi f t (acc ||| b) := by
  have ht' : t = [] ∨ ∃ c r, t = c :: r ∧ digit c = false := by
    rcases ht with h | ⟨r, h⟩
    · exact Or.inl h
    · exact Or.inr ⟨44, r, h, d44⟩
  have ht45 : ∀ r, t ≠ 45 :: r := by
    rintro r rfl
    rcases ht with h | ⟨r', h⟩
    · simp at h
    · simp at h
  have hend : ∀ acc', after44 lo hi f t acc' = goOn lo hi f t acc' := by
    intro acc'
    rcases ht with rfl | ⟨r, rfl⟩
    · rfl
    · simp [after44, goOn]
  have hbig : ∀ (q : Prop) [Decidable q] (x y : Nat), (if q then (none : Option Nat) else some (spanN x y)).bind (fun b => goOn lo hi f t (acc ||| b)) = if q then none else goOn lo hi f t (acc ||| spanN x y) := by
    intro q _ x y
    split <;> rfl
  rw [scanO_succ, num2_app p t ht']
  simp only
  by_cases hm : (45 : UInt8) ∈ p
  · obtain ⟨a, b, rfl, ha⟩ := mem_split 45 p hm
    rw [num2_app a (45 :: b) (Or.inr ⟨45, b, rfl, d45⟩)]
    simp only
    unfold itemO
    rw [cut_some a b 45 ha]
    simp only [if_true]
    rw [hbig]
    by_cases he : (num2 a).2 = []
    · rw [he, (num2_spec a).1 he]
      simp only [List.nil_append, List.cons_append]
      rw [dash1_45, dash2_45, num2_app b t ht']
      simp only
      by_cases hb : (num2 b).2 = []
      · rw [hb, (num2_spec b).1 hb, List.nil_append, hend]
      · rw [(num2_spec b).2 hb]
        obtain ⟨c, q, hq⟩ : ∃ c q, (num2 b).2 = c :: q := by
          cases hh : (num2 b).2 with
          | nil => exact absurd hh hb
          | cons c q => exact ⟨c, q, rfl⟩
        have hc : c ≠ 44 := by
          rintro rfl
          have := num2_mem b 44 (by rw [hq]; simp)
          exact hp (by simp [this])
        rw [hq, List.cons_append, after44_no _ _ _ _ _ _ hc]
        have : (num2 a).1 < lo ∨ hi < -1 ∨ -1 < (num2 a).1 := by omega
        rw [if_pos this]
        simp
    · obtain ⟨c, q, hq⟩ : ∃ c q, (num2 a).2 = c :: q := by
        cases hh : (num2 a).2 with
        | nil => exact absurd hh he
        | cons c q => exact ⟨c, q, rfl⟩
      have hcm := num2_mem a c (by rw [hq]; simp)
      have hc : c ≠ 44 := by rintro rfl; exact hp (by simp [hcm])
      have hc5 : c ≠ 45 := by rintro rfl; exact ha hcm
      rw [(num2_spec a).2 he, hq, List.cons_append, List.cons_append, dash2_no _ (fun r k => hc5 (by simpa using (List.cons.inj k).1)), after44_no _ _ _ _ _ _ hc]
      rw [if_pos (Or.inl (by omega) : (-1 : Int) < lo ∨ hi < numL b ∨ numL b < -1)]
      simp
  · unfold itemO
    rw [cut_none p 45 hm]
    simp only [Bool.false_eq_true, if_false]
    rw [hbig]
    by_cases he : (num2 p).2 = []
    · rw [he, (num2_spec p).1 he, List.nil_append, dash1_no _ _ ht45, dash2_no _ ht45, hend]
    · obtain ⟨c, q, hq⟩ : ∃ c q, (num2 p).2 = c :: q := by
        cases hh : (num2 p).2 with
        | nil => exact absurd hh he
        | cons c q => exact ⟨c, q, rfl⟩
      have hcm := num2_mem p c (by rw [hq]; simp)
      have hc : c ≠ 44 := by rintro rfl; exact hp hcm
      have hc5 : c ≠ 45 := by rintro rfl; exact hm hcm
      rw [(num2_spec p).2 he, hq, List.cons_append, dash2_no _ (fun r k => hc5 (by simpa using (List.cons.inj k).1)), after44_no _ _ _ _ _ _ hc]
      rw [if_pos (Or.inl (by omega) : (-1 : Int) < lo ∨ hi < -1 ∨ (-1 : Int) < -1)]
      simp

theorem commas_none (p : List UInt8) (h : 44 ∉ p) : commas p = [p] := by
  induction p with
  | nil => rfl
  | cons c r ih =>
    simp at h
    unfold commas
    rw [if_neg (fun e => h.1 e.symm), ih h.2]
theorem commas_some (p t : List UInt8) (h : 44 ∉ p) : commas (p ++ 44 :: t) = p :: commas t := by
  induction p with
  | nil => simp [commas]
  | cons c r ih =>
    simp at h
    rw [List.cons_append]
    conv => lhs; unfold commas
    rw [if_neg (fun e => h.1 e.symm), ih h.2]

theorem scan_eq (lo hi : Int) (hlo : 0 ≤ lo) : ∀ (f : Nat) (s : List UInt8) (acc : Nat), s.length < f → scanO lo hi f s acc = fieldO lo hi (commas s) acc
  | 0, _, _, h => by omega
  | f + 1, s, acc, h => by
    by_cases hm : (44 : UInt8) ∈ s
    · obtain ⟨p, t, rfl, hp⟩ := mem_split 44 s hm
      rw [scan_piece lo hi hlo f acc p (44 :: t) hp (Or.inr ⟨t, rfl⟩), commas_some p t hp]
      unfold fieldO
      cases itemO p lo hi with
      | none => rfl
      | some b => exact scan_eq lo hi hlo f t _ (by simp at h; omega)
    · have := scan_piece lo hi hlo f acc s [] hm (Or.inl rfl)
      rw [List.append_nil] at this
      rw [this, commas_none s hm]
      unfold fieldO
      cases itemO s lo hi with
      | none => rfl
      | some b => rfl

theorem splitK_commas : ∀ (k : Nat) (s : List UInt8), s.count 44 = k → Lib.splitK [44] 0 k s = commas s
  | 0, s, h => by
    have hm : (44 : UInt8) ∉ s := by rw [← List.count_eq_zero]; exact h
    rw [commas_none s hm]; rfl
  | k + 1, s, h => by
    have hm : (44 : UInt8) ∈ s := by rw [← List.count_pos_iff]; omega
    obtain ⟨p, t, rfl, hp⟩ := mem_split 44 s hm
    have hi := (index_one 44 (p ++ 44 :: t)).2 p t rfl hp
    have hc : t.count 44 = k := by
      rw [List.count_append, List.count_eq_zero.2 hp, List.count_cons_self] at h; omega
    unfold Lib.splitK
    rw [hi]
    have hne : ((p.length : Int) == -1) = false := by simp
    rw [hne, commas_some p t hp, ← splitK_commas k t hc]
    simp

theorem split_commas (s : ByteArray) : (Lib.splitB ⟨#[44]⟩ 0 (Lib.countB s ⟨#[44]⟩) s).map (·.data.toList) = commas s.data.toList := by
  rw [Lib.splitB_data]
  exact splitK_commas _ _ (Lib.count_one 44 _).symm

end Go.Proofs.YtdmchgmcbnjelaaDoor
