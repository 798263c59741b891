/- Plain facts on UTF-8: a rune of a text that is whole takes as many bytes as its encoding. -/
import Derived.Test.YtdmchgmcbnjelaaDoorFields
namespace Go.Proofs.YtdmchgmcbnjelaaDoor
open Go.RowKit

theorem get_bang (s : ByteArray) (i : Nat) (h : i < s.size) : s.get! i = s[i] := by
  simp [ByteArray.get!, getElem!_pos, h]; rfl

theorem enc2 (c : Nat) (h1 : 128 ≤ c) (h2 : c < 2048) : (Utf8.encode (c : Int)).size = 2 := by
  have hv : Utf8.valid (c : Int) = true := by unfold Utf8.valid; simp; omega
  unfold Utf8.encode
  simp only [hv, if_true, Int.toNat_natCast]
  rw [if_neg (by omega), if_pos h2]; rfl
theorem enc3 (c : Nat) (h1 : 2048 ≤ c) (h2 : c < 65536) (hv : Utf8.valid (c : Int) = true) : (Utf8.encode (c : Int)).size = 3 := by
  unfold Utf8.encode
  simp only [hv, if_true, Int.toNat_natCast]
  rw [if_neg (by omega), if_neg (by omega), if_pos h2]; rfl
theorem enc4 (c : Nat) (h1 : 65536 ≤ c) (hv : Utf8.valid (c : Int) = true) : (Utf8.encode (c : Int)).size = 4 := by
  unfold Utf8.encode
  simp only [hv, if_true, Int.toNat_natCast]
  rw [if_neg (by omega), if_neg (by omega), if_neg (by omega)]; rfl
theorem enc1 (c : Nat) (h : c < 128) : (Utf8.encode (c : Int)).size = 1 := by
  have hv : Utf8.valid (c : Int) = true := by unfold Utf8.valid; simp; omega
  unfold Utf8.encode
  simp only [hv, if_true, Int.toNat_natCast]
  rw [if_pos h]; rfl

/-- what a rune that is whole is like -/
def Chunk (s : ByteArray) (pos : Nat) (d : Nat × Nat) : Prop :=
  1 ≤ d.2 ∧ pos + d.2 ≤ s.size ∧ (Utf8.encode (d.1 : Int)).size = d.2 ∧ 128 ≤ d.1 ∧ ∀ j, j < d.2 → ∀ h : pos + j < s.size, 128 ≤ s[pos + j].toNat

theorem decode_chunk (s : ByteArray) (pos : Nat) (h : pos < s.size) (ha : 128 ≤ s[pos].toNat) : Utf8.decode s pos = (65533, 1) ∨ Chunk s pos (Utf8.decode s pos) := by
  have hb0 : (s.get! (pos + 0)).toNat = s[pos].toNat := by rw [Nat.add_zero, get_bang s pos h]
  have hcont : ∀ k, (decide (pos + k < s.size) && ((s.get! (pos + k)).toNat / 64 == 2)) = true → pos + k < s.size ∧ ∀ h : pos + k < s.size, 128 ≤ s[pos + k].toNat ∧ s[pos + k].toNat < 192 ∧ (s.get! (pos + k)).toNat = s[pos + k].toNat := by
    intro k hk
    simp at hk
    refine ⟨hk.1, fun h => ?_⟩
    have := get_bang s (pos + k) h
    rw [this] at hk ⊢
    omega
  unfold Utf8.decode
  simp only [hb0]
  rw [if_neg (by omega)]
  split
  · rename_i h1
    simp only [Bool.and_eq_true] at h1
    obtain ⟨c1, c2⟩ := h1
    obtain ⟨k1, k2⟩ := hcont 1 (by simpa using c2)
    have q1 := k2 k1
    simp at c1
    split
    · rename_i hc
      right
      rw [q1.2.2] at hc ⊢
      refine ⟨by simp, by simp; omega, ?_, by simp; omega, ?_⟩
      · exact enc2 _ (by omega) (by have := s[pos].toNat_lt; omega)
      · intro j hj hh
        simp at hj
        rcases (by omega : j = 0 ∨ j = 1) with rfl | rfl
        · simpa using ha
        · exact (k2 hh).1
    · left; rfl
  · split
    · rename_i h1
      simp only [Bool.and_eq_true] at h1
      obtain ⟨⟨c1, c2⟩, c3⟩ := h1
      obtain ⟨k1, k2⟩ := hcont 1 (by simpa using c2)
      obtain ⟨l1, l2⟩ := hcont 2 (by simpa using c3)
      have q1 := k2 k1
      have q2 := l2 l1
      simp at c1
      split
      · rename_i hc
        right
        rw [q1.2.2, q2.2.2] at hc ⊢
        simp only [Bool.and_eq_true, decide_eq_true_eq] at hc
        refine ⟨by simp, by simp; omega, ?_, by simp; omega, ?_⟩
        · exact enc3 _ (by omega) (by have := s[pos].toNat_lt; omega) hc.2
        · intro j hj hh
          simp at hj
          rcases (by omega : j = 0 ∨ j = 1 ∨ j = 2) with rfl | rfl | rfl
          · simpa using ha
          · exact (k2 hh).1
          · exact (l2 hh).1
      · left; rfl
    · split
      · rename_i h1
        simp only [Bool.and_eq_true] at h1
        obtain ⟨⟨⟨c1, c2⟩, c3⟩, c4⟩ := h1
        obtain ⟨k1, k2⟩ := hcont 1 (by simpa using c2)
        obtain ⟨l1, l2⟩ := hcont 2 (by simpa using c3)
        obtain ⟨m1, m2⟩ := hcont 3 (by simpa using c4)
        have q1 := k2 k1
        have q2 := l2 l1
        have q3 := m2 m1
        simp at c1
        split
        · rename_i hc
          right
          rw [q1.2.2, q2.2.2, q3.2.2] at hc ⊢
          simp only [Bool.and_eq_true, decide_eq_true_eq] at hc
          refine ⟨by simp, by simp; omega, ?_, by simp; omega, ?_⟩
          · exact enc4 _ (by omega) hc.2
          · intro j hj hh
            simp at hj
            rcases (by omega : j = 0 ∨ j = 1 ∨ j = 2 ∨ j = 3) with rfl | rfl | rfl | rfl
            · simpa using ha
            · exact (k2 hh).1
            · exact (l2 hh).1
            · exact (m2 hh).1
        · left; rfl
      · left; rfl

/-- where the k-th rune begins -/
def runeAt (s : ByteArray) : Nat → Nat
  | 0 => 0
  | k + 1 => runeAt s k + (Utf8.decode s (runeAt s k)).2

/-- a text that is valid -/
def VU (s : ByteArray) : Prop := ∀ k, runeAt s k < s.size → Utf8.decode s (runeAt s k) ≠ (65533, 1)

theorem chunk_blank {s : ByteArray} {k : Nat} (hV : VU s) (h : runeAt s k < s.size) :
    (blank s[runeAt s k] = true → Utf8.decode s (runeAt s k) = (s[runeAt s k].toNat, 1)) ∧
    (blank s[runeAt s k] = false → 1 ≤ (Utf8.decode s (runeAt s k)).2 ∧ runeAt s k + (Utf8.decode s (runeAt s k)).2 ≤ s.size ∧ (Utf8.encode ((Utf8.decode s (runeAt s k)).1 : Int)).size = (Utf8.decode s (runeAt s k)).2 ∧
      (((Utf8.decode s (runeAt s k)).1 : Int) == 32) = false ∧ (((Utf8.decode s (runeAt s k)).1 : Int) == 9) = false ∧
      ∀ j, j < (Utf8.decode s (runeAt s k)).2 → ∀ h : runeAt s k + j < s.size, blank s[runeAt s k + j] = false) := by
  have hv := hV k h
  generalize runeAt s k = pos at *
  constructor
  · intro hb
    have : s[pos].toNat < 128 := by unfold blank at hb; simp at hb; omega
    exact decode_ascii s pos h this
  · intro hb
    by_cases ha : s[pos].toNat < 128
    · rw [decode_ascii s pos h ha]
      have hb' := hb
      unfold blank at hb'
      simp at hb'
      refine ⟨by simp, by simp; omega, enc1 _ ha, by simp; omega, by simp; omega, ?_⟩
      intro j hj hh
      simp at hj
      subst hj
      exact hb
    · rcases decode_chunk s pos h (by omega) with hc | hc
      · exact absurd hc hv
      · obtain ⟨c1, c2, c3, c4, c5⟩ := hc
        refine ⟨c1, c2, c3, by simp; omega, by simp; omega, ?_⟩
        intro j hj hh
        have := c5 j hj hh
        unfold blank; simp; omega

theorem fold_more : ∀ (l : List UInt8) (o : List (List UInt8)) (p : List UInt8), (∀ c ∈ l, blank c = false) → l.foldl stepF (o ++ [p], true) = (o ++ [p ++ l], true)
  | [], o, p, _ => by simp
  | c :: l, o, p, h => by
    rw [List.foldl_cons, step_more _ _ _ (h c (by simp)), fold_more l o (p ++ [c]) (fun c hc => h c (by simp [hc]))]
    simp
theorem fold_new (l : List UInt8) (hl : l ≠ []) (o : List (List UInt8)) (h : ∀ c ∈ l, blank c = false) : l.foldl stepF (o, false) = (o ++ [l], true) := by
  cases l with
  | nil => exact absurd rfl hl
  | cons c l =>
    rw [List.foldl_cons, step_new _ _ (h c (by simp)), fold_more l o [c] (fun c hc => h c (by simp [hc]))]
    rfl

theorem foldF_app (a b : List UInt8) : foldF (a ++ b) = b.foldl stepF (foldF a) := by simp [foldF]

theorem take_chunk (s : ByteArray) (pos n : Nat) : s.data.toList.take (pos + n) = s.data.toList.take pos ++ (s.extract pos (pos + n)).data.toList := by
  rw [Lib.extract_data, List.take_add]; congr 2; omega

theorem mem_extract (s : ByteArray) (pos n : Nat) (h : pos + n ≤ s.size) (hb : ∀ j, j < n → ∀ h : pos + j < s.size, blank s[pos + j] = false) : ∀ c ∈ (s.extract pos (pos + n)).data.toList, blank c = false := by
  intro c hc
  rw [Lib.extract_data] at hc
  obtain ⟨j, hj, rfl⟩ := List.mem_iff_getElem.1 hc
  simp at hj
  have := hb j (by omega) (by omega)
  rw [List.getElem_take, List.getElem_drop]
  exact this

end Go.Proofs.YtdmchgmcbnjelaaDoor
