/- Walks: numbers, pieces and fields of the program. -/
import Derived.Test.YtdmchgmcbnjelaaDoorW6
import Derived.Test.YtdmchgmcbnjelaaDoorParse
import Derived.Laws.RangeString
import Derived.Laws.RangeAny
namespace Go.Proofs.YtdmchgmcbnjelaaDoor
open Go.RowKit

theorem byteAt (s : ByteArray) (pos : Nat) (hp : pos < s.size) : s.data.toList[pos]'(by simpa using hp) = s[pos] := rfl

/-- a rune and the digit where it stands -/
theorem rune_digit (s : ByteArray) (pos : Nat) (hp : pos < s.size) :
    (digit s[pos] = true → Utf8.decode s pos = (s[pos].toNat, 1) ∧ 48 ≤ (s[pos].toNat : Int) ∧ (s[pos].toNat : Int) ≤ 57) ∧
    (digit s[pos] = false → ((Utf8.decode s pos).1 : Int) < 48 ∨ (57 : Int) < (Utf8.decode s pos).1) := by
  by_cases ha : s[pos].toNat < 128
  · rw [decode_ascii s pos hp ha]
    unfold digit
    constructor
    · intro h; simp at h; exact ⟨rfl, by omega, by omega⟩
    · intro h; simp at h; simp only; omega
  · have := decode_high s pos hp (by omega)
    constructor
    · intro h; unfold digit at h; simp at h; omega
    · intro _; right; omega

def valL (l : List UInt8) : Int := l.foldl (fun n c => 10 * n + dv c) 0

theorem valL_snoc (l : List UInt8) (c : UInt8) : valL (l ++ [c]) = 10 * valL l + dv c := by simp [valL]

theorem numL_all (l : List UInt8) (h1 : 1 ≤ l.length) (h2 : l.length ≤ 2) (h : ∀ c ∈ l, digit c = true) : numL l = valL l := by
  match l, h1, h2 with
  | [c], _, _ => simp [numL, valL, h c (by simp)]
  | [c, d], _, _ => simp [numL, valL, h c (by simp), h d (by simp)]

theorem numL_bad (l : List UInt8) (c : UInt8) (hc : c ∈ l) (h : digit c = false) : numL l = -1 := by
  match l, hc with
  | [a], hc => simp at hc; subst hc; simp [numL, h]
  | [a, b], hc => simp at hc; rcases hc with rfl | rfl <;> simp [numL, h]
  | _ :: _ :: _ :: _, _ => rfl

theorem numL_long (l : List UInt8) (h : l.length < 1 ∨ 2 < l.length) : numL l = -1 := by
  match l with
  | [] => rfl
  | [_] => simp at h
  | [_, _] => simp at h
  | _ :: _ :: _ :: _ => rfl

theorem take_snoc' (s : ByteArray) (k : Nat) (h : k < s.size) : s.data.toList.take (k + 1) = s.data.toList.take k ++ [s[k]] := by
  rw [List.take_succ_eq_append_getElem (by simpa using h)]; rfl

theorem valL_bd (l : List UInt8) (h : ∀ c ∈ l, digit c = true) (hl : l.length ≤ 2) : 0 ≤ valL l ∧ valL l ≤ 99 := by
  match l, hl with
  | [], _ => simp [valL]
  | [c], _ => have := dv_bd (h c (by simp)); simp [valL]; omega
  | [c, d], _ => have := dv_bd (h c (by simp)); have := dv_bd (h d (by simp)); simp [valL]; omega

def NumTells (s : ByteArray) (w : World) (e : Ending) (w' : World) : Prop := e = .returned (.int .i64 (numL s.data.toList)) ∧ Below w.heap.size w w'

set_option maxHeartbeats 1000000 in
set_option maxRecDepth 100000 in
theorem number_any (s : ByteArray) (w : World) (hs : s.size ≤ 1000) :
    Calls Tryd.prog 51 #[.string s] w (NumTells s w) := by
  by_cases h1 : s.size < 1
  · go_enter Tryd.func51, Tryd.ntmps51
    go_wp2
    go_ret
    exact ⟨retInt (numL_long _ (Or.inl (by simpa using h1))).symm, Below.refl _ _⟩
  by_cases h2 : 2 < s.size
  · have h1' : ¬ (s.size : Int) < 1 := by omega
    have h2' : (2 : Int) < s.size := by omega
    go_enter Tryd.func51, Tryd.ntmps51
    go_wp2
    go_ret
    exact ⟨retInt (numL_long _ (Or.inr (by simpa using h2))).symm, Below.refl _ _⟩
  have h1' : ¬ (s.size : Int) < 1 := by omega
  have h2' : ¬ (2 : Int) < s.size := by omega
  go_enter Tryd.func51, Tryd.ntmps51
  go_wp2
  go_loopw [3] (fun n w' => ∃ (pos : Nat), w' = w.iter s pos ∧ pos ≤ s.size ∧ (∀ c ∈ s.data.toList.take pos, digit c = true) ∧ n = .int .i64 (valL (s.data.toList.take pos))) (fun _ w' => s.size - w'.iterPos w.heap.size)
  case atStart => exact ⟨0, rfl, by omega, by simp, rfl⟩
  case round =>
    obtain ⟨pos, rfl, hle, hall, rfl⟩ := hrel
    have hbd := valL_bd _ hall (by simp; omega)
    by_cases hp : pos < s.size
    · have hnx : ∀ ty, (Instr.next (.pointer (some ⟨w.heap.size, 0, none⟩)) true ty).run Tryd.prog (w.iter s pos) = _ := fun ty => run_next_any w s pos ty hp
      obtain ⟨r1, r2⟩ := rune_digit s pos hp
      have hsn := Lib.hid (take_snoc' s pos hp)
      have hmem : s[pos] ∈ s.data.toList := by rw [← byteAt s pos hp]; exact List.getElem_mem _
      have HALL := Lib.hid hall
      have HMEM := Lib.hid hmem
      clear hall hmem
      cases hd : digit s[pos]
      · have q := r2 hd
        have HD := Lib.hid hd
        clear r1 r2 hd
        rcases q with q | q
        · go_wp2
          go_ret
          exact ⟨retInt (numL_bad _ _ HMEM.out HD.out).symm, (Below.refl _ _).alloc (Nat.le_refl _) _⟩
        · have q' : ¬ ((Utf8.decode s pos).1 : Int) < 48 := by omega
          go_wp2
          go_ret
          exact ⟨retInt (numL_bad _ _ HMEM.out HD.out).symm, (Below.refl _ _).alloc (Nat.le_refl _) _⟩
      · obtain ⟨q1, q2, q3⟩ := r1 hd
        have HD := Lib.hid hd
        clear r1 r2 hd
        go_wp2
        go_roundw
        case rel =>
          refine ⟨pos + 1, rfl, by omega, ?_, ?_⟩
          · intro c hc
            rw [hsn.out, List.mem_append] at hc
            rcases hc with hc | hc
            · exact HALL.out c hc
            · simp at hc; subst hc; exact HD.out
          · rw [hsn.out, valL_snoc]; rfl
        case measure => simp; omega
    · have hnx : ∀ ty, (Instr.next (.pointer (some ⟨w.heap.size, 0, none⟩)) true ty).run Tryd.prog (w.iter s pos) = _ := fun ty => run_next_end w s pos ty hp
      have hps : pos = s.size := by omega
      have HALL := Lib.hid hall
      clear hall
      subst hps
      go_wp2
      go_ret
      have hta : s.data.toList.take s.size = s.data.toList := List.take_of_length_le (by simp)
      have hh := HALL.out
      rw [hta] at hh
      exact ⟨retInt (by rw [hta, numL_all _ (by simp; omega) (by simp; omega) hh]), (Below.refl _ _).alloc (Nat.le_refl _) _⟩
end Go.Proofs.YtdmchgmcbnjelaaDoor
