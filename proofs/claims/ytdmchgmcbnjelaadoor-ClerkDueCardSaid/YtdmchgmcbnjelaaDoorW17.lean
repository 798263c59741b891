/- Walks: names of jobs, both sides. -/
import Derived.Test.YtdmchgmcbnjelaaDoorW12
namespace Go.Proofs.YtdmchgmcbnjelaaDoor
open Go.RowKit

/-- a letter that may not stand at a place of a name -/
def badAt (i : Nat) (c : Nat) : Bool := (decide (c < 97) || decide (122 < c)) && (decide (c < 48) || decide (57 < c)) && (decide (c ≠ 45) || i == 0)

/-- may a text be a job's name? -/
def nameB (s : ByteArray) : Bool := decide (∀ i, ∀ h : i < s.size, badAt i s[i].toNat = false) && (decide (1 ≤ s.size) && decide (s.size ≤ 30))

theorem nameB_bad {s : ByteArray} (i : Nat) (h : i < s.size) (hb : badAt i s[i].toNat = true) : nameB s = false := by
  unfold nameB
  have : ¬ (∀ i, ∀ h : i < s.size, badAt i s[i].toNat = false) := fun hh => by rw [hh i h] at hb; exact absurd hb (by simp)
  simp [this]

theorem nameB_good {s : ByteArray} (hg : ∀ i, ∀ h : i < s.size, badAt i s[i].toNat = false) : nameB s = (decide (1 ≤ s.size) && decide (s.size ≤ 30)) := by
  unfold nameB
  simp [hg]

theorem bad_cases (i c : Nat) : (badAt i c = false ∧ ((97 ≤ c ∧ c ≤ 122) ∨ (48 ≤ c ∧ c ≤ 57) ∨ (c = 45 ∧ i ≠ 0))) ∨ (badAt i c = true ∧ ((c < 48 ∧ c ≠ 45) ∨ (57 < c ∧ c < 97) ∨ 122 < c ∨ (c = 45 ∧ i = 0))) := by
  unfold badAt
  by_cases h1 : c < 97 <;> by_cases h2 : 122 < c <;> by_cases h3 : c < 48 <;> by_cases h4 : 57 < c <;> by_cases h5 : c = 45 <;> by_cases h6 : i = 0 <;> simp [h1, h2, h3, h4, h5, h6] <;> omega

def NameTells (s : ByteArray) (w : World) (e : Ending) (w' : World) : Prop := e = .returned (.bool (nameB s)) ∧ Below w.heap.size w w'

theorem nameTells_bad {s : ByteArray} {w w' : World} (i : Nat) (h : i < s.size) (hb : badAt i s[i].toNat = true) (hw : Below w.heap.size w w') : NameTells s w (.returned (.bool false)) w' := ⟨by rw [nameB_bad i h hb], hw⟩

set_option maxHeartbeats 2000000 in
set_option maxRecDepth 100000 in
theorem rname_any (s : ByteArray) (w : World) (hs : s.size ≤ 1000) :
    Calls Tryd.prog 26 #[.string s] w (NameTells s w) := by
  go_enter Tryd.func26, Tryd.ntmps26
  go_wp2_with fail
  go_loop [3] (fun v => ∃ i : Nat, i ≤ s.size ∧ v = .int .i64 i ∧ ∀ j, j < i → ∀ h : j < s.size, badAt j s[j].toNat = false) (fun v => s.size - (intOf v).toNat)
  case atStart => exact ⟨0, by omega, rfl, fun j hj => by omega⟩
  case round =>
    obtain ⟨i, hi, rfl, hall⟩ := hrel
    by_cases hlt : i < s.size
    · have hstep := Lib.hid (fun (q : badAt i s[i].toNat = false) => show ∀ j, j < i + 1 → ∀ h : j < s.size, badAt j s[j].toNat = false from fun j hj h => by
        rcases Nat.lt_or_ge j i with q' | q'
        · exact hall j q' h
        · obtain rfl : j = i := by omega
          exact q)
      clear hall
      have hb := s[i].toNat_lt
      rcases bad_cases i s[i].toNat with ⟨hc, h1 | h1 | h1⟩ | ⟨hc, h1 | h1 | h1 | h1⟩
      · have HC := Lib.hid (hstep.out hc)
        clear hc
        obtain ⟨a1, a2⟩ := h1
        have b1 : ¬ (s[i].toNat : Int) < 97 := by omega
        have b2 : ¬ (122 : Int) < s[i].toNat := by omega
        go_wp2_with fail
        go_round
        case rel => exact ⟨i + 1, by omega, by go_num, HC.out⟩
        case measure => simp [intOf] <;> omega
      · have HC := Lib.hid (hstep.out hc)
        clear hc
        obtain ⟨a1, a2⟩ := h1
        have b1 : (s[i].toNat : Int) < 97 := by omega
        have b2 : ¬ (s[i].toNat : Int) < 48 := by omega
        have b3 : ¬ (57 : Int) < s[i].toNat := by omega
        go_wp2_with fail
        go_round
        case rel => exact ⟨i + 1, by omega, by go_num, HC.out⟩
        case measure => simp [intOf] <;> omega
      · have HC := Lib.hid (hstep.out hc)
        clear hc
        obtain ⟨a1, a2⟩ := h1
        have b1 : (s[i].toNat : Int) < 97 := by omega
        have b2 : (s[i].toNat : Int) < 48 := by omega
        have b3 : ((s[i].toNat : Int) != 45) = false := by simp; omega
        have b4 : ((i : Int) == 0) = false := by simp; omega
        clear a1 a2
        go_wp2_with fail
        go_round
        case rel => exact ⟨i + 1, by omega, by go_num, HC.out⟩
        case measure => simp [intOf] <;> omega
      · have HC := Lib.hid hc
        clear hc
        obtain ⟨a1, a2⟩ := h1
        have b1 : (s[i].toNat : Int) < 97 := by omega
        have b2 : (s[i].toNat : Int) < 48 := by omega
        have b3 : ((s[i].toNat : Int) != 45) = true := by simp; omega
        clear a2
        go_wp2_with fail
        go_ret
        exact nameTells_bad i hlt HC.out (Below.refl _ _)
      · have HC := Lib.hid hc
        clear hc
        obtain ⟨a1, a2⟩ := h1
        have b1 : (s[i].toNat : Int) < 97 := by omega
        have b2 : ¬ (s[i].toNat : Int) < 48 := by omega
        have b4 : (57 : Int) < s[i].toNat := by omega
        have b3 : ((s[i].toNat : Int) != 45) = true := by simp; omega
        go_wp2_with fail
        go_ret
        exact nameTells_bad i hlt HC.out (Below.refl _ _)
      · have HC := Lib.hid hc
        clear hc
        have b1 : ¬ (s[i].toNat : Int) < 97 := by omega
        have b2 : (122 : Int) < s[i].toNat := by omega
        have b5 : ¬ (s[i].toNat : Int) < 48 := by omega
        have b4 : (57 : Int) < s[i].toNat := by omega
        have b3 : ((s[i].toNat : Int) != 45) = true := by simp; omega
        go_wp2_with fail
        go_ret
        exact nameTells_bad i hlt HC.out (Below.refl _ _)
      · have HC := Lib.hid hc
        clear hc
        obtain ⟨a1, a2⟩ := h1
        have b1 : (s[i].toNat : Int) < 97 := by omega
        have b2 : (s[i].toNat : Int) < 48 := by omega
        have b3 : ((s[i].toNat : Int) != 45) = false := by simp; omega
        have b4 : ((i : Int) == 0) = true := by simp; omega
        clear a1 a2
        go_wp2_with fail
        go_ret
        exact nameTells_bad i hlt HC.out (Below.refl _ _)
    · have hg := nameB_good (s := s) (fun j h => hall j (by omega) h)
      have HG := Lib.hid hg
      clear hg hall
      by_cases h1 : 1 ≤ s.size
      · have h1' : (1 : Int) ≤ s.size := by omega
        go_wp2_with fail
        go_ret
        exact ⟨retBool (by rw [HG.out]; simp [h1]; omega), Below.refl _ _⟩
      · have h1' : ¬ (1 : Int) ≤ s.size := by omega
        go_wp2_with fail
        go_ret
        exact ⟨retBool (by rw [HG.out]; simp [h1]), Below.refl _ _⟩

/-- the rune that stands at a byte -/
theorem rune_name (s : ByteArray) (i : Nat) (h : i < s.size) : (s[i].toNat < 128 ∧ Utf8.decode s i = (s[i].toNat, 1)) ∨ (128 ≤ s[i].toNat ∧ (128 : Int) ≤ (Utf8.decode s i).1) := by
  by_cases ha : s[i].toNat < 128
  · exact Or.inl ⟨ha, decode_ascii s i h ha⟩
  · have := decode_high s i h (by omega)
    exact Or.inr ⟨by omega, by omega⟩

set_option maxHeartbeats 4000000 in
set_option maxRecDepth 100000 in
theorem name_any (s : ByteArray) (w : World) (hs : s.size ≤ 1000) :
    Calls Tryd.prog 18 #[.string s] w (NameTells s w) := by
  have BB : ∀ p, Below w.heap.size w (w.iter s p) := fun p => (Below.refl _ _).alloc (Nat.le_refl _) _
  go_enter Tryd.func18, Tryd.ntmps18
  go_wp2_with fail
  go_loopw [] (fun wr => ∃ i : Nat, wr = w.iter s i ∧ i ≤ s.size ∧ ∀ j, j < i → ∀ h : j < s.size, badAt j s[j].toNat = false) (fun wr => s.size - wr.iterPos w.heap.size)
  case atStart => exact ⟨0, rfl, by omega, fun j hj => by omega⟩
  case round =>
    obtain ⟨i, rfl, hi, hall⟩ := hrel
    by_cases hlt : i < s.size
    · have hstep := Lib.hid (fun (q : badAt i s[i].toNat = false) => show ∀ j, j < i + 1 → ∀ h : j < s.size, badAt j s[j].toNat = false from fun j hj h => by
        rcases Nat.lt_or_ge j i with q' | q'
        · exact hall j q' h
        · obtain rfl : j = i := by omega
          exact q)
      clear hall
      have hnx : ∀ ty, (Instr.next (.pointer (some ⟨w.heap.size, 0, none⟩)) true ty).run Tryd.prog (w.iter s i) = _ := fun ty => run_next_any w s i ty hlt
      have hb := s[i].toNat_lt
      rcases rune_name s i hlt with ⟨ha, hd⟩ | ⟨ha, hd⟩
      · rcases bad_cases i s[i].toNat with ⟨hc, h1 | h1 | h1⟩ | ⟨hc, h1 | h1 | h1 | h1⟩
        · have HC := Lib.hid (hstep.out hc)
          clear hc
          obtain ⟨a1, a2⟩ := h1
          have b1 : ¬ (s[i].toNat : Int) < 97 := by omega
          have b2 : ¬ (122 : Int) < s[i].toNat := by omega
          go_wp2_with fail
          go_roundw
          case rel => exact ⟨i + 1, rfl, by omega, HC.out⟩
          case measure => simp <;> omega
        · have HC := Lib.hid (hstep.out hc)
          clear hc
          obtain ⟨a1, a2⟩ := h1
          have b1 : (s[i].toNat : Int) < 97 := by omega
          have b2 : ¬ (s[i].toNat : Int) < 48 := by omega
          have b3 : ¬ (57 : Int) < s[i].toNat := by omega
          go_wp2_with fail
          go_roundw
          case rel => exact ⟨i + 1, rfl, by omega, HC.out⟩
          case measure => simp <;> omega
        · have HC := Lib.hid (hstep.out hc)
          clear hc
          obtain ⟨a1, a2⟩ := h1
          have b1 : (s[i].toNat : Int) < 97 := by omega
          have b2 : (s[i].toNat : Int) < 48 := by omega
          have b3 : ((s[i].toNat : Int) != 45) = false := by simp; omega
          have b4 : ((i : Int) == 0) = false := by simp; omega
          clear a1 a2
          go_wp2_with fail
          go_roundw
          case rel => exact ⟨i + 1, rfl, by omega, HC.out⟩
          case measure => simp <;> omega
        · have HC := Lib.hid hc
          clear hc
          obtain ⟨a1, a2⟩ := h1
          have b1 : (s[i].toNat : Int) < 97 := by omega
          have b2 : (s[i].toNat : Int) < 48 := by omega
          have b3 : ((s[i].toNat : Int) != 45) = true := by simp; omega
          clear a2
          go_wp2_with fail
          go_ret
          exact nameTells_bad i hlt HC.out (BB _)
        · have HC := Lib.hid hc
          clear hc
          obtain ⟨a1, a2⟩ := h1
          have b1 : (s[i].toNat : Int) < 97 := by omega
          have b2 : ¬ (s[i].toNat : Int) < 48 := by omega
          have b4 : (57 : Int) < s[i].toNat := by omega
          have b3 : ((s[i].toNat : Int) != 45) = true := by simp; omega
          go_wp2_with fail
          go_ret
          exact nameTells_bad i hlt HC.out (BB _)
        · have HC := Lib.hid hc
          clear hc
          have b1 : ¬ (s[i].toNat : Int) < 97 := by omega
          have b2 : (122 : Int) < s[i].toNat := by omega
          have b5 : ¬ (s[i].toNat : Int) < 48 := by omega
          have b4 : (57 : Int) < s[i].toNat := by omega
          have b3 : ((s[i].toNat : Int) != 45) = true := by simp; omega
          go_wp2_with fail
          go_ret
          exact nameTells_bad i hlt HC.out (BB _)
        · have HC := Lib.hid hc
          clear hc
          obtain ⟨a1, a2⟩ := h1
          have b1 : (s[i].toNat : Int) < 97 := by omega
          have b2 : (s[i].toNat : Int) < 48 := by omega
          have b3 : ((s[i].toNat : Int) != 45) = false := by simp; omega
          have b4 : ((i : Int) == 0) = true := by simp; omega
          clear a1 a2
          go_wp2_with fail
          go_ret
          exact nameTells_bad i hlt HC.out (BB _)
      · have hc : badAt i s[i].toNat = true := by
          rcases bad_cases i s[i].toNat with ⟨_, h1 | h1 | h1⟩ | ⟨hc, _⟩
          · omega
          · omega
          · omega
          · exact hc
        have HC := Lib.hid hc
        clear hc
        generalize Utf8.decode s i = d at *
        obtain ⟨r, wd⟩ := d
        simp only at *
        have b1 : ¬ (r : Int) < 97 := by omega
        have b2 : (122 : Int) < r := by omega
        have b5 : ¬ (r : Int) < 48 := by omega
        have b4 : (57 : Int) < r := by omega
        have b3 : ((r : Int) != 45) = true := by simp; omega
        go_wp2_with fail
        go_ret
        exact nameTells_bad i hlt HC.out (BB _)
    · have hnx : ∀ ty, (Instr.next (.pointer (some ⟨w.heap.size, 0, none⟩)) true ty).run Tryd.prog (w.iter s i) = _ := fun ty => run_next_end w s i ty hlt
      have hg := nameB_good (s := s) (fun j h => hall j (by omega) h)
      have HG := Lib.hid hg
      clear hg hall
      by_cases h1 : 1 ≤ s.size
      · have h1' : (1 : Int) ≤ s.size := by omega
        go_wp2_with fail
        go_ret
        exact ⟨retBool (by rw [HG.out]; simp [h1]; omega), BB _⟩
      · have h1' : ¬ (1 : Int) ≤ s.size := by omega
        go_wp2_with fail
        go_ret
        exact ⟨retBool (by rw [HG.out]; simp [h1]), BB _⟩
end Go.Proofs.YtdmchgmcbnjelaaDoor
