/- Plain facts: an expression read. -/
import Derived.Test.YtdmchgmcbnjelaaDoorW14
namespace Go.Proofs.YtdmchgmcbnjelaaDoor
open Go.RowKit

def fld (s : List UInt8) (lo hi : Int) : Option Nat := if s = [42] then some (spanN lo.toNat hi.toNat) else fieldO lo hi (commas s) 0

def five (ls : List (List UInt8)) : Option Ex :=
  match ls with
  | [a, b, c, d, e] => (fld a 0 59).bind fun x0 => (fld b 0 23).bind fun x1 => (fld c 1 31).bind fun x2 => (fld d 1 12).bind fun x3 => (fld e 0 6).bind fun x4 =>
      some ⟨x0, x1, x2, x3, x4, c == [42], e == [42]⟩
  | _ => none

def parseE (l : List UInt8) : Option Ex := five (fieldsL l)

theorem five_eq (a b c d e : List UInt8) : five [a, b, c, d, e] = (fld a 0 59).bind fun x0 => (fld b 0 23).bind fun x1 => (fld c 1 31).bind fun x2 => (fld d 1 12).bind fun x3 => (fld e 0 6).bind fun x4 =>
      some ⟨x0, x1, x2, x3, x4, c == [42], e == [42]⟩ := rfl

theorem five_some {a b c d e : List UInt8} {x0 x1 x2 x3 x4 : Nat} (h0 : fld a 0 59 = some x0) (h1 : fld b 0 23 = some x1) (h2 : fld c 1 31 = some x2) (h3 : fld d 1 12 = some x3) (h4 : fld e 0 6 = some x4) :
    five [a, b, c, d, e] = some ⟨x0, x1, x2, x3, x4, c == [42], e == [42]⟩ := by
  rw [five_eq, h0, h1, h2, h3, h4]; rfl
theorem five_len {ls : List (List UInt8)} (h : ls.length ≠ 5) : five ls = none := by
  unfold five
  split
  · simp at h
  · rfl
theorem five_0 {a b c d e : List UInt8} (h : fld a 0 59 = none) : five [a, b, c, d, e] = none := by rw [five_eq, h]; rfl
theorem five_1 {a b c d e : List UInt8} (h : fld b 0 23 = none) : five [a, b, c, d, e] = none := by rw [five_eq, h]; cases fld a 0 59 <;> rfl
theorem five_2 {a b c d e : List UInt8} (h : fld c 1 31 = none) : five [a, b, c, d, e] = none := by rw [five_eq, h]; cases fld a 0 59 <;> cases fld b 0 23 <;> rfl
theorem five_3 {a b c d e : List UInt8} (h : fld d 1 12 = none) : five [a, b, c, d, e] = none := by rw [five_eq, h]; cases fld a 0 59 <;> cases fld b 0 23 <;> cases fld c 1 31 <;> rfl
theorem five_4 {a b c d e : List UInt8} (h : fld e 0 6 = none) : five [a, b, c, d, e] = none := by rw [five_eq, h]; cases fld a 0 59 <;> cases fld b 0 23 <;> cases fld c 1 31 <;> cases fld d 1 12 <;> rfl

theorem itemO_lt2 (p : List UInt8) (lo hi : Int) (b k : Nat) (h0 : 0 ≤ hi) (hh : hi < k) (h : itemO p lo hi = some b) : b < 2 ^ k := by
  obtain ⟨x, y, e⟩ := itemO_cases p lo hi
  rw [e] at h
  split at h
  · simp at h
  · rename_i hq
    have := Option.some.inj h
    rw [← this]
    unfold spanN
    have h1 : 2 ^ (y.toNat + 1) ≤ 2 ^ k := Nat.pow_le_pow_right (by decide) (by omega)
    have h2 : 0 < 2 ^ x.toNat := Nat.two_pow_pos _
    have h3 : 0 < 2 ^ k := Nat.two_pow_pos _
    omega

theorem fieldO_lt2 (lo hi : Int) (k : Nat) (h0 : 0 ≤ hi) (hh : hi < k) : ∀ (l : List (List UInt8)) (acc x : Nat), acc < 2 ^ k → fieldO lo hi l acc = some x → x < 2 ^ k
  | [], acc, x, ha, h => by unfold fieldO at h; rw [← Option.some.inj h]; exact ha
  | p :: r, acc, x, ha, h => by
    rw [fieldO_cons] at h
    cases hi' : itemO p lo hi with
    | none => rw [hi'] at h; simp at h
    | some b =>
      rw [hi'] at h
      exact fieldO_lt2 lo hi k h0 hh r (acc ||| b) x (Nat.or_lt_two_pow ha (itemO_lt2 p lo hi b k h0 hh hi')) h

theorem fieldO_ne (lo hi : Int) : ∀ (l : List (List UInt8)) (acc x : Nat), (l ≠ [] ∨ acc ≠ 0) → fieldO lo hi l acc = some x → x ≠ 0
  | [], acc, x, ha, h => by
    unfold fieldO at h; rw [← Option.some.inj h]
    rcases ha with ha | ha
    · exact absurd rfl ha
    · exact ha
  | p :: r, acc, x, _, h => by
    rw [fieldO_cons] at h
    cases hi' : itemO p lo hi with
    | none => rw [hi'] at h; simp at h
    | some b =>
      rw [hi'] at h
      refine fieldO_ne lo hi r (acc ||| b) x (Or.inr ?_) h
      intro e
      have hb0 : b ≠ 0 := fun e => itemO_ne p lo hi (by rw [hi', e])
      apply hb0
      apply Nat.eq_of_testBit_eq
      intro i
      have := congrArg (fun n => Nat.testBit n i) e
      simp only [Nat.testBit_or, Nat.zero_testBit] at this
      rw [Nat.zero_testBit]
      simp at this
      exact this.2

theorem fld_lt (s : List UInt8) (lo hi : Int) (k x : Nat) (h0 : 0 ≤ hi) (hh : hi < k) (h : fld s lo hi = some x) : x < 2 ^ k := by
  unfold fld at h
  split at h
  · rw [← Option.some.inj h]
    unfold spanN
    have h1 : 2 ^ (hi.toNat + 1) ≤ 2 ^ k := Nat.pow_le_pow_right (by decide) (by omega)
    have h2 : 0 < 2 ^ lo.toNat := Nat.two_pow_pos _
    have h3 : 0 < 2 ^ k := Nat.two_pow_pos _
    omega
  · exact fieldO_lt2 lo hi k h0 hh _ 0 x (Nat.two_pow_pos k) h

theorem fld_ne (s : List UInt8) (lo hi : Int) (x : Nat) (h0 : lo ≤ hi) (h : fld s lo hi = some x) : x ≠ 0 := by
  unfold fld at h
  split at h
  · rw [← Option.some.inj h]
    exact span_pos lo hi h0
  · exact fieldO_ne lo hi _ 0 x (Or.inl (commas_ne s)) h

theorem ok_of {x0 x1 x2 x3 x4 : Nat} {a b c d e : List UInt8} {p q : Bool} (h0 : fld a 0 59 = some x0) (h1 : fld b 0 23 = some x1) (h2 : fld c 1 31 = some x2) (h3 : fld d 1 12 = some x3) (h4 : fld e 0 6 = some x4) :
    (Ex.mk x0 x1 x2 x3 x4 p q).Ok := by
  have a0 := fld_lt a 0 59 60 x0 (by omega) (by omega) h0
  have a1 := fld_lt b 0 23 24 x1 (by omega) (by omega) h1
  have a2 := fld_lt c 1 31 32 x2 (by omega) (by omega) h2
  have a3 := fld_lt d 1 12 13 x3 (by omega) (by omega) h3
  have a4 := fld_lt e 0 6 7 x4 (by omega) (by omega) h4
  simp only [Nat.reducePow] at a0 a1 a2 a3 a4
  exact ⟨a0, a1, a2, a3, a4⟩

/-- the text of a field is in what the walks say -/
theorem fieldV_fld (s : List UInt8) (lo hi : Int) : (if s = [42] then starV lo hi else fieldV s lo hi) = ((fld s lo hi).getD 0 : Nat) := by
  unfold fld starV fieldV
  split <;> rfl

/-! ### a text that is not valid is no expression -/
theorem numL_high (p : List UInt8) (c : UInt8) (hc : c ∈ p) (h : 128 ≤ c.toNat) : numL p = -1 := numL_bad p c hc (by unfold digit; simp; omega)

theorem itemO_high (p : List UInt8) (lo hi : Int) (hlo : 0 ≤ lo) (c : UInt8) (hc : c ∈ p) (h : 128 ≤ c.toNat) : itemO p lo hi = none := by
  have hc45 : c ≠ 45 := by rintro rfl; simp at h
  unfold itemO
  by_cases hm : (45 : UInt8) ∈ p
  · obtain ⟨a, b, rfl, ha⟩ := mem_split 45 p hm
    rw [cut_some a b 45 ha]
    simp only [if_true]
    rw [List.mem_append, List.mem_cons] at hc
    rcases hc with hc | hc | hc
    · rw [numL_high a c hc h, if_pos (Or.inl (by omega))]
    · exact absurd hc hc45
    · rw [numL_high b c hc h]
      by_cases hx : numL a < lo
      · rw [if_pos (Or.inl hx)]
      · rw [if_pos (Or.inr (Or.inr (by omega)))]
  · rw [cut_none p 45 hm]
    simp only [Bool.false_eq_true, if_false]
    rw [numL_high p c hc h, if_pos (Or.inl (by omega))]

theorem fieldO_none (lo hi : Int) : ∀ (l : List (List UInt8)) (acc : Nat), (∃ p ∈ l, itemO p lo hi = none) → fieldO lo hi l acc = none
  | [], _, h => by obtain ⟨p, hp, _⟩ := h; simp at hp
  | q :: r, acc, h => by
    rw [fieldO_cons]
    obtain ⟨p, hp, hn⟩ := h
    rw [List.mem_cons] at hp
    rcases hp with rfl | hp
    · rw [hn]; rfl
    · cases itemO q lo hi with
      | none => rfl
      | some b => exact fieldO_none lo hi r _ ⟨p, hp, hn⟩

theorem mem_commas (c : UInt8) (hc : c ≠ 44) : ∀ (l : List UInt8), c ∈ l → ∃ p ∈ commas l, c ∈ p
  | [], h => by simp at h
  | x :: r, h => by
    unfold commas
    rw [List.mem_cons] at h
    by_cases hx : x = 44
    · rw [if_pos hx]
      rcases h with h | h
      · exact absurd (h.trans hx) hc
      · obtain ⟨p, hp, hcp⟩ := mem_commas c hc r h
        exact ⟨p, by simp [hp], hcp⟩
    · rw [if_neg hx]
      cases hr : commas r with
      | nil => exact absurd hr (commas_ne r)
      | cons p q =>
        rcases h with h | h
        · exact ⟨x :: p, by simp, by simp [h]⟩
        · obtain ⟨p', hp, hcp⟩ := mem_commas c hc r h
          rw [hr, List.mem_cons] at hp
          rcases hp with rfl | hp
          · exact ⟨x :: p', by simp, by simp [hcp]⟩
          · exact ⟨p', by simp [hp], hcp⟩

theorem fld_high (s : List UInt8) (lo hi : Int) (hlo : 0 ≤ lo) (c : UInt8) (hc : c ∈ s) (h : 128 ≤ c.toNat) : fld s lo hi = none := by
  unfold fld
  rw [if_neg (by rintro rfl; simp at hc; subst hc; simp at h)]
  obtain ⟨p, hp, hcp⟩ := mem_commas c (by rintro rfl; simp at h) s hc
  exact fieldO_none lo hi _ 0 ⟨p, hp, itemO_high p lo hi hlo c hcp h⟩

theorem stepF_mem (c x : UInt8) (st : List (List UInt8) × Bool) (hst : st.2 = true → st.1 ≠ []) :
    ((∃ p ∈ st.1, c ∈ p) ∨ (c = x ∧ blank x = false)) → ∃ p ∈ (stepF st x).1, c ∈ p := by
  obtain ⟨o, b⟩ := st
  simp only at *
  unfold stepF
  simp only
  by_cases hb : blank x = true
  · rw [if_pos hb]
    rintro (h | ⟨_, h⟩)
    · exact h
    · rw [hb] at h; exact absurd h (by simp)
  · rw [if_neg hb]
    cases b with
    | false =>
      simp only [Bool.false_eq_true, if_false]
      rintro (⟨p, hp, hc⟩ | ⟨rfl, _⟩)
      · exact ⟨p, by simp [hp], hc⟩
      · exact ⟨[c], by simp, by simp⟩
    | true =>
      simp only [if_true]
      obtain ⟨o', q, rfl⟩ : ∃ o' q, o = o' ++ [q] := ⟨_, _, (List.dropLast_concat_getLast (hst rfl)).symm⟩
      rw [List.dropLast_concat]
      have hl : (o' ++ [q]).getLastD [] = q := by simp
      rw [hl]
      rintro (⟨p, hp, hc⟩ | ⟨rfl, _⟩)
      · rw [List.mem_append] at hp
        rcases hp with hp | hp
        · exact ⟨p, List.mem_append.2 (Or.inl hp), hc⟩
        · have : p = q := by simpa using hp
          subst this
          exact ⟨p ++ [x], List.mem_append.2 (Or.inr (by simp)), by simp [hc]⟩
      · exact ⟨q ++ [c], List.mem_append.2 (Or.inr (by simp)), by simp⟩

theorem stepF_inside (x : UInt8) (st : List (List UInt8) × Bool) : (stepF st x).2 = true → (stepF st x).1 ≠ [] := by
  unfold stepF
  split
  · simp
  · split <;> simp

theorem foldl_mem (c : UInt8) (hb : blank c = false) : ∀ (l : List UInt8) (st : List (List UInt8) × Bool), (st.2 = true → st.1 ≠ []) → ((∃ p ∈ st.1, c ∈ p) ∨ c ∈ l) → ∃ p ∈ (l.foldl stepF st).1, c ∈ p
  | [], st, _, h => by
    rcases h with h | h
    · exact h
    · simp at h
  | x :: l, st, hst, h => by
    rw [List.foldl_cons]
    refine foldl_mem c hb l _ (stepF_inside x st) ?_
    rcases h with h | h
    · exact Or.inl (stepF_mem c x st hst (Or.inl h))
    · rw [List.mem_cons] at h
      rcases h with rfl | h
      · exact Or.inl (stepF_mem c c st hst (Or.inr ⟨rfl, hb⟩))
      · exact Or.inr h

theorem five_high (ls : List (List UInt8)) (p : List UInt8) (hp : p ∈ ls) (c : UInt8) (hc : c ∈ p) (h : 128 ≤ c.toNat) : five ls = none := by
  match ls with
  | [a, b, c', d, e] =>
    simp at hp
    rcases hp with rfl | rfl | rfl | rfl | rfl
    · exact five_0 (fld_high _ _ _ (by omega) c hc h)
    · exact five_1 (fld_high _ _ _ (by omega) c hc h)
    · exact five_2 (fld_high _ _ _ (by omega) c hc h)
    · exact five_3 (fld_high _ _ _ (by omega) c hc h)
    · exact five_4 (fld_high _ _ _ (by omega) c hc h)
  | [] => rfl
  | [_] => rfl
  | [_, _] => rfl
  | [_, _, _] => rfl
  | [_, _, _, _] => rfl
  | _ :: _ :: _ :: _ :: _ :: _ :: _ => rfl

theorem ascii_runes (s : ByteArray) (h : ∀ i, ∀ hi : i < s.size, s[i].toNat < 128) : VU s := by
  intro k hk
  rw [decode_ascii s _ hk (h _ hk)]
  intro e
  have := congrArg Prod.fst e
  have := h _ hk
  simp at *
  omega

theorem parse_invalid (s : ByteArray) (h : ¬ VU s) : parseE s.data.toList = none := by
  have : ∃ i, ∃ hi : i < s.size, ¬ s[i].toNat < 128 := by
    apply Classical.byContradiction
    intro hn
    apply h
    apply ascii_runes
    intro i hi
    apply Classical.byContradiction
    intro hc
    exact hn ⟨i, hi, hc⟩
  obtain ⟨i, hi, hc⟩ := this
  have hmem : s[i] ∈ s.data.toList := by rw [← byteAt s i hi]; exact List.getElem_mem _
  obtain ⟨p, hp, hcp⟩ := foldl_mem s[i] (by unfold blank; simp; omega) s.data.toList ([], false) (by simp) (Or.inr hmem)
  exact five_high _ p hp s[i] hcp (by omega)

end Go.Proofs.YtdmchgmcbnjelaaDoor
