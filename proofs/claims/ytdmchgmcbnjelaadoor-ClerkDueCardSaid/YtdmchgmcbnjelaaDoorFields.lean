/- Plain facts: a text taken to pieces at blanks and tabs. -/
import Derived.Test.YtdmchgmcbnjelaaDoorW10
namespace Go.Proofs.YtdmchgmcbnjelaaDoor
open Go.RowKit

def blank (c : UInt8) : Bool := c.toNat == 32 || c.toNat == 9

def stepF (st : List (List UInt8) × Bool) (c : UInt8) : List (List UInt8) × Bool :=
  if blank c then (st.1, false) else if st.2 then (st.1.dropLast ++ [st.1.getLastD [] ++ [c]], true) else (st.1 ++ [[c]], true)

def foldF (l : List UInt8) : List (List UInt8) × Bool := l.foldl stepF ([], false)
def fieldsL (l : List UInt8) : List (List UInt8) := (foldF l).1

theorem foldF_snoc (l : List UInt8) (c : UInt8) : foldF (l ++ [c]) = stepF (foldF l) c := by simp [foldF]

theorem step_blank (o : List (List UInt8)) (b : Bool) (c : UInt8) (h : blank c = true) : stepF (o, b) c = (o, false) := by simp [stepF, h]
theorem step_new (o : List (List UInt8)) (c : UInt8) (h : blank c = false) : stepF (o, false) c = (o ++ [[c]], true) := by simp [stepF, h]
theorem step_more (o : List (List UInt8)) (p : List UInt8) (c : UInt8) (h : blank c = false) : stepF (o ++ [p], true) c = (o ++ [p ++ [c]], true) := by simp [stepF, h]

def texts (ss : List ByteArray) : List (List UInt8) := ss.map (·.data.toList)

/-- the reference's round: i bytes are read, ss are done, a piece is open from f on -/
def RelF (s : ByteArray) (i : Nat) (ss : List ByteArray) (f : Int) : Prop :=
  (f = -1 ∧ ((i ≤ s.size ∧ foldF (s.data.toList.take i) = (texts ss, false)) ∨ (i = s.size + 1 ∧ fieldsL s.data.toList = texts ss))) ∨
  (∃ k : Nat, f = k ∧ k < i ∧ i ≤ s.size ∧ foldF (s.data.toList.take i) = (texts ss ++ [(s.extract k i).data.toList], true))

theorem extract_snoc (s : ByteArray) (k i : Nat) (hk : k ≤ i) (hi : i < s.size) : (s.extract k (i + 1)).data.toList = (s.extract k i).data.toList ++ [s[i]] := by
  rw [Lib.extract_data, Lib.extract_data]
  have hlen : i - k < (s.data.toList.drop k).length := by simp; omega
  rw [show i + 1 - k = i - k + 1 from by omega, List.take_succ_eq_append_getElem hlen]
  congr 2
  rw [List.getElem_drop]
  have e : k + (i - k) = i := by omega
  simp only [e]; rfl

theorem extract_one (s : ByteArray) (i : Nat) (hi : i < s.size) : (s.extract i (i + 1)).data.toList = [s[i]] := by
  rw [extract_snoc s i i (Nat.le_refl _) hi, Lib.extract_data]; simp

theorem texts_snoc (ss : List ByteArray) (p : ByteArray) : texts (ss ++ [p]) = texts ss ++ [p.data.toList] := by simp [texts]

theorem RelF.blank_open {s : ByteArray} {i k : Nat} {ss : List ByteArray} (h : RelF s i ss (k : Int)) (hi : i < s.size) (hb : blank s[i] = true) : RelF s (i + 1) (ss ++ [s.extract k i]) (-1) := by
  rcases h with ⟨h, _⟩ | ⟨k', h1, h2, h3, h4⟩
  · omega
  · obtain rfl : k = k' := by omega
    refine Or.inl ⟨rfl, Or.inl ⟨by omega, ?_⟩⟩
    rw [take_snoc' s i hi, foldF_snoc, h4, step_blank _ _ _ hb, texts_snoc]

theorem RelF.blank_shut {s : ByteArray} {i : Nat} {ss : List ByteArray} (h : RelF s i ss (-1)) (hi : i < s.size) (hb : blank s[i] = true) : RelF s (i + 1) ss (-1) := by
  rcases h with ⟨_, h | h⟩ | ⟨k', h1, h2, h3, h4⟩
  · refine Or.inl ⟨rfl, Or.inl ⟨by omega, ?_⟩⟩
    rw [take_snoc' s i hi, foldF_snoc, h.2, step_blank _ _ _ hb]
  · omega
  · omega

theorem RelF.new {s : ByteArray} {i : Nat} {ss : List ByteArray} (h : RelF s i ss (-1)) (hi : i < s.size) (hb : blank s[i] = false) : RelF s (i + 1) ss (i : Int) := by
  rcases h with ⟨_, h | h⟩ | ⟨k', h1, h2, h3, h4⟩
  · refine Or.inr ⟨i, rfl, by omega, by omega, ?_⟩
    rw [take_snoc' s i hi, foldF_snoc, h.2, step_new _ _ hb, extract_one s i hi]
  · omega
  · omega

theorem RelF.more {s : ByteArray} {i k : Nat} {ss : List ByteArray} (h : RelF s i ss (k : Int)) (hi : i < s.size) (hb : blank s[i] = false) : RelF s (i + 1) ss (k : Int) := by
  rcases h with ⟨h, _⟩ | ⟨k', h1, h2, h3, h4⟩
  · omega
  · obtain rfl : k = k' := by omega
    refine Or.inr ⟨k, rfl, by omega, by omega, ?_⟩
    rw [take_snoc' s i hi, foldF_snoc, h4, step_more _ _ _ hb, extract_snoc s k i (by omega) hi]

theorem RelF.end_open {s : ByteArray} {k : Nat} {ss : List ByteArray} (h : RelF s s.size ss (k : Int)) : RelF s (s.size + 1) (ss ++ [s.extract k s.size]) (-1) := by
  rcases h with ⟨h, _⟩ | ⟨k', h1, h2, h3, h4⟩
  · omega
  · obtain rfl : k = k' := by omega
    refine Or.inl ⟨rfl, Or.inr ⟨rfl, ?_⟩⟩
    rw [List.take_of_length_le (by simp)] at h4
    unfold fieldsL
    rw [h4, texts_snoc]

theorem RelF.end_shut {s : ByteArray} {ss : List ByteArray} (h : RelF s s.size ss (-1)) : RelF s (s.size + 1) ss (-1) := by
  rcases h with ⟨_, h | h⟩ | ⟨k', h1, h2, h3, h4⟩
  · refine Or.inl ⟨rfl, Or.inr ⟨rfl, ?_⟩⟩
    have h4 := h.2
    rw [List.take_of_length_le (by simp)] at h4
    unfold fieldsL
    rw [h4]
  · omega
  · omega

theorem RelF.done {s : ByteArray} {i : Nat} {ss : List ByteArray} {f : Int} (h : RelF s i ss f) (hi : s.size < i) : fieldsL s.data.toList = texts ss := by
  rcases h with ⟨_, h | h⟩ | ⟨k', h1, h2, h3, h4⟩
  · omega
  · exact h.2
  · omega

theorem RelF.start (s : ByteArray) : RelF s 0 [] (-1) := Or.inl ⟨rfl, Or.inl ⟨by omega, rfl⟩⟩

theorem RelF.bd {s : ByteArray} {i : Nat} {ss : List ByteArray} {f : Int} (h : RelF s i ss f) : f = -1 ∨ ∃ k : Nat, f = k ∧ k < i := by
  rcases h with ⟨h, _⟩ | ⟨k', h1, h2, h3, h4⟩
  · exact Or.inl h
  · exact Or.inr ⟨k', h1, h2⟩

end Go.Proofs.YtdmchgmcbnjelaaDoor
