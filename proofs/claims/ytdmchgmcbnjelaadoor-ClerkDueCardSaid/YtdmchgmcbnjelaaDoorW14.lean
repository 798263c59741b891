/- Walks: a text that is not valid UTF-8 comes back shorter. -/
import Derived.Test.YtdmchgmcbnjelaaDoorW13
namespace Go.Proofs.YtdmchgmcbnjelaaDoor
open Go.RowKit

theorem extract_get (s : ByteArray) (i k : Nat) (hi : i ≤ s.size) : (s.extract i s.size).get! (0 + k) = s.get! (i + k) := by
  by_cases h : i + k < s.size
  · rw [get_bang s (i + k) h, get_bang _ (0 + k) (by simp; omega), ByteArray.getElem_extract]
    congr 1; omega
  · have h1 : ¬ 0 + k < (s.extract i s.size).size := by simp; omega
    simp only [ByteArray.get!]
    rw [getElem!_neg _ _ (by simp at h ⊢; omega), getElem!_neg _ _ (by simp; omega)]

theorem decode_extract (s : ByteArray) (i : Nat) (hi : i ≤ s.size) : Utf8.decode (s.extract i s.size) 0 = Utf8.decode s i := by
  have hs : ∀ k, (0 + k < (s.extract i s.size).size) = (i + k < s.size) := by
    intro k; simp; omega
  unfold Utf8.decode
  simp only [extract_get s i _ hi, hs]

theorem width_pos' (s : ByteArray) (i : Nat) (h : i < s.size) : 1 ≤ (Utf8.decode s i).2 := by
  by_cases ha : s[i].toNat < 128
  · rw [decode_ascii s i h ha]; exact Nat.le_refl _
  · exact (decode_high s i h (by omega)).2

theorem runeAt_mono (s : ByteArray) (k j : Nat) (h : s.size ≤ runeAt s k) : s.size ≤ runeAt s (k + j) := by
  induction j with
  | zero => exact h
  | succ j ih => show _ ≤ runeAt s (k + j) + _; omega

theorem VU_of (s : ByteArray) (k : Nat) (h : s.size ≤ runeAt s k) (hall : ∀ j, j < k → Utf8.decode s (runeAt s j) ≠ (65533, 1)) : VU s := by
  intro j hj
  rcases Nat.lt_or_ge j k with q | q
  · exact hall j q
  · have := runeAt_mono s k (j - k) h
    rw [show k + (j - k) = j from by omega] at this
    omega

theorem BAt.slice {B b : Nat} {bs : List Value} {w : World} (h : BAt B b bs w) : ∃ p n c, w.cell? ⟨b, 1, none⟩ = some (.slice p n c) := by
  obtain ⟨_, v, hb, hown, _⟩ := h
  have c1 : w.cell? ⟨b, 1, none⟩ = some v := by rw [Lib.cell_of_heap hb]; rfl
  rcases hown.2 with ⟨rfl, _⟩ | ⟨g, cap, cur, fz, rfl, _⟩
  · exact ⟨_, _, _, c1⟩
  · exact ⟨_, _, _, c1⟩

theorem BAt.below {B b : Nat} {bs : List Value} {w w' : World} (h : BAt B b bs w) (hb : Below w.heap.size w w') : BAt B b bs w' := by
  obtain ⟨hB, v, hbk, hown, hne⟩ := h
  have hlt := (Array.getElem?_eq_some_iff.1 hbk).1
  refine ⟨hB, v, by rw [hb.block _ hlt]; exact hbk, ?_, hne⟩
  obtain ⟨h1, h2⟩ := hown
  refine ⟨h1, ?_⟩
  rcases h2 with h2 | ⟨g, cap, cur, fz, e1, e2, e3, e4⟩
  · exact Or.inl h2
  · have hlt2 := (Array.getElem?_eq_some_iff.1 e3).1
    exact Or.inr ⟨g, cap, cur, fz, e1, e2, by rw [hb.block _ hlt2]; exact e3, e4⟩

/-- the relation of the second loop -/
def WLoop (pos n : Nat) (w : World) (inv i : Value) (wr : World) : Prop :=
  ∃ (k : Nat) (l : List UInt8) (b : Bool), k ≤ n ∧ inv = .bool b ∧ i = .int .i64 k ∧ BAt w.heap.size w.heap.size (Lib.byteCells l) wr ∧ Below w.heap.size w wr ∧ ((k = 0 ∧ l.length = pos) ∨ l.length < pos + k)

theorem byteCells_snoc (l : List UInt8) (c : UInt8) : Lib.byteCells l ++ [.int .u8 c.toNat] = Lib.byteCells (l ++ [c]) := by simp [Lib.byteCells]
theorem byteCells_str (l : List UInt8) (s : ByteArray) : Lib.byteCells l ++ Lib.strCells s = Lib.byteCells (l ++ s.data.toList) := by simp [Lib.byteCells, Lib.strCells]

/-- what ToValidUTF8 tells -/
def ValidTells (s : ByteArray) (w : World) (e : Ending) (w' : World) : Prop :=
  ∃ r : ByteArray, e = .returned (.string r) ∧ ((VU s ∧ r = s) ∨ (¬ VU s ∧ r.size < s.size)) ∧ Below w.heap.size w w'

def VLoop (s : ByteArray) (w : World) (v0 : Value) (wr : World) : Prop :=
  v0 = .string s ∧ ∃ k : Nat, runeAt s k ≤ s.size ∧ (∀ j, j < k → Utf8.decode s (runeAt s j) ≠ (65533, 1)) ∧ wr.heap[w.heap.size]? = some (.cells #[.pointer none, .slice none 0 0] 68 (0, 0)) ∧
    wr.heap[w.heap.size + 1]? = some (.stringIter s (runeAt s k)) ∧ Below w.heap.size w wr ∧ w.heap.size + 2 ≤ wr.heap.size

set_option maxHeartbeats 2000000 in
set_option maxRecDepth 100000 in
theorem toValid_any (s : ByteArray) (w : World) (hs : s.size ≤ 1000) (hG : Glob w) :
    Calls Tryd.prog 19 #[.string s, .string ⟨#[]⟩] w (ValidTells s w) := by
  have HG := Lib.hid hG
  clear hG
  go_enter Tryd.func19, Tryd.ntmps19
  go_wp2_with fail
  go_loopw [0] (fun v0 wr => VLoop s w v0 wr) (fun _ wr => s.size - wr.iterPos (w.heap.size + 1))
  case atStart =>
    refine ⟨rfl, 0, by simp [runeAt], fun j hj => by omega, ?_, ?_, ((Below.refl _ _).alloc (Nat.le_refl _) _).alloc (by rw [World.size_alloc]; omega) _, by simp [World.iter]⟩
    · show ((w.alloc _).alloc _).heap[w.heap.size]? = _
      rw [Below.heap_alloc _ _ _ (by rw [World.size_alloc]; omega)]
      exact heap_alloc_new w _
    · have := World.iter_heap (w.alloc (.cells #[.pointer none, .slice none 0 0] 68)) s 0
      rw [World.size_alloc] at this
      exact this
  case round =>
    obtain ⟨rfl, k, hk, hall, hbk, hit, hb, hsz⟩ := hrel
    have hsucc : runeAt s (k + 1) = runeAt s k + (Utf8.decode s (runeAt s k)).2 := rfl
    have HSUC := Lib.hid hsucc
    have HBK := Lib.hid hbk
    have HIT := Lib.hid hit
    have HALL := Lib.hid hall
    have HVU := Lib.hid (VU_of s k)
    have HNV := Lib.hid (fun (a : runeAt s k < s.size) (b : Utf8.decode s (runeAt s k) = (65533, 1)) => show ¬ VU s from fun hv => hv k a b)
    have HALL' := Lib.hid (fun (q : Utf8.decode s (runeAt s k) ≠ (65533, 1)) => show ∀ j, j < k + 1 → Utf8.decode s (runeAt s j) ≠ (65533, 1) from fun j hj => by
      rcases Nat.lt_or_ge j k with q' | q'
      · exact hall j q'
      · obtain rfl : j = k := by omega
        exact q)
    have HPOS := Lib.hid (iterPos_of' hit)
    clear hall hbk hsucc
    generalize runeAt s k = pos at *
    by_cases hp : pos < s.size
    · have hwd := width_pos' s pos hp
      have hex := decode_extract s pos (by omega)
      have hchunk : Utf8.decode s pos = (65533, 1) ∨ pos + (Utf8.decode s pos).2 ≤ s.size := by
        by_cases ha : s[pos].toNat < 128
        · right; rw [decode_ascii s pos hp ha]; simp; omega
        · rcases decode_chunk s pos hp (by omega) with h | h
          · exact Or.inl h
          · exact Or.inr h.2.1
      have hnx0 : ∀ ty, (Instr.next (.pointer (some ⟨w.heap.size + 1, 0, none⟩)) true ty).run Tryd.prog wr = _ := fun ty => Lib.run_next_any_at wr (w.heap.size + 1) s pos ty hit hp
      obtain ⟨W, hW⟩ : ∃ W, wr.iterAt (w.heap.size + 1) s (pos + (Utf8.decode s pos).2) = W := ⟨_, rfl⟩
      have HITW : Hid (W.heap[w.heap.size + 1]? = some (.stringIter s (pos + (Utf8.decode s pos).2))) := by rw [← hW]; exact Lib.iterAt_heap wr _ s pos _ hit
      have HBKW : Hid (W.heap[w.heap.size]? = some (.cells #[.pointer none, .slice none 0 0] 68 (0, 0))) := by rw [← hW]; show _ = _; rw [Lib.iterAt_other _ _ _ _ _ (by omega)]; exact HBK.out
      have hzW : w.heap.size + 2 ≤ W.heap.size := by rw [← hW, Lib.iterAt_size]; exact hsz
      have BW : Below w.heap.size w W := by rw [← hW]; exact Lib.below_iterAt hb (by omega) s _
      rw [hW] at hnx0
      have hnx := hnx0
      clear hnx0 hW hb hsz HIT hit HBK
      have HEX := Lib.hid hex
      clear hex
      generalize hd : Utf8.decode s pos = d at *
      have HD := Lib.hid hd
      clear hd
      obtain ⟨r, wd⟩ := d
      simp only at *
      by_cases hre : r = 65533
      · subst hre
        have GW : Glob W := HG.out.below BW
        have GWH := Lib.hid GW
        clear GW
        go_wp2_with fail
        refine (Tryd.utf8_DecodeRuneInString (s.extract pos s.size) _ GWH.out.u8).mono ?_
        have hdg : Lib.decodeGo (s.extract pos s.size) = (65533, wd) := by
          unfold Lib.decodeGo
          rw [if_neg (by simp; omega), HEX.out]
        rw [hdg]
        rintro e w2 ⟨rfl, hb2⟩
        by_cases hw1 : wd = 1
        · subst hw1
          go_wp2_with fail
          have hz2 := hb2.size
          have hbk2 : w2.heap[w.heap.size]? = some (.cells #[.pointer none, .slice none 0 0] 68 (0, 0)) := by rw [hb2.block _ (by omega)]; exact HBKW.out
          refine (Tryd.Builder_Grow_fresh_cap w.heap.size w.heap.size s.size _ (Nat.le_refl _) hbk2 (by omega) (by omega)).mono ?_
          rintro e w3 ⟨rfl, ⟨hba, hb3⟩, pa, cp, hcell, hcap⟩
          have hba' : BAt w.heap.size w.heap.size [] w3 := Lib.BuilderAtF.of hba
          have hz3 := hb3.size
          clear hba hbk2
          have hx0 : (s.extract 0 pos).size = pos := by simp; omega
          go_wp2_with fail
          refine (writeString_any w.heap.size w.heap.size [] (s.extract 0 pos) _ hba' (by rw [hx0]; simp; omega) (by omega)).mono ?_
          rintro e w4 ⟨rfl, hba4, hb4, hcap4⟩
          obtain ⟨v1, hv1, hcv⟩ := hcap4 _ hcell
          obtain ⟨pb, nb, cb, hv2⟩ := hba4.slice
          have hvv : v1 = .slice pb nb cb := Option.some.inj (hv1.symm.trans hv2)
          rw [hvv] at hcv
          have hcb : 1 ≤ cb := by
            have : cp ≤ cb := hcv
            omega
          have hcb' : ((cb : Int) == 0) = false := by simp; omega
          have B4 : Below w.heap.size w w4 := ((BW.trans (hb2.mono (by omega))).trans hb3).trans hb4
          have hz4 := B4.size
          have hba5 : BAt w.heap.size w.heap.size (Lib.byteCells (s.extract 0 pos).data.toList) w4 := by
            have := hba4
            rw [List.nil_append, Lib.strCells_eq] at this
            exact this
          have HNVU := Lib.hid (HNV.out hp trivial)
          clear hcv hcb hvv hv1 hcap4 hcell hcap hba' hba4 hb2 hb3 hb4 hx0 HALL' HALL HVU HNV HITW HBKW HPOS HSUC hchunk
          go_wp2_with fail
          refine (cap_any w.heap.size nb cb pb _ hv2).mono ?_
          rintro e w5 ⟨rfl, rfl⟩
          have hTs : (s.extract pos s.size).size = s.size - pos := by simp
          have hdec := HEX.out
          have HDEC := Lib.hid hdec
          clear hv2 hdec HEX
          generalize hT : s.extract pos s.size = T at *
          have hxs : (s.extract 0 pos).data.toList.length = pos := by simp; omega
          have hT1 : T.size + pos ≤ s.size := by omega
          have hT2 : s.size ≤ T.size + pos := by omega
          clear hTs
          generalize (s.extract 0 pos).data.toList = l0 at *
          have HBA5 := Lib.hid hba5
          have HXS := Lib.hid hxs
          clear hT hba5 hxs
          go_wp2_with fail
          go_loopw [10, 11] (fun inv i wr => WLoop pos (s.size - pos) w inv i wr) (fun _ i _ => s.size - (intOf i).toNat)
          case atStart => exact ⟨0, l0, false, by omega, rfl, rfl, HBA5.out, B4, Or.inl ⟨rfl, HXS.out⟩⟩
          case round =>
            obtain ⟨k2, l, bi, hk2, rfl, rfl, hba, hbr, hlen⟩ := hrel
            have hzr := hbr.size
            have HBA := Lib.hid hba
            clear hba
            by_cases hlt : k2 < s.size - pos
            · have hltT : k2 < T.size := by omega
              have hltI : (k2 : Int) < T.size := by omega
              have hdk := decode_extract T k2 (by omega)
              have HDK := Lib.hid hdk
              clear hdk
              by_cases ha : T[k2].toNat < 128
              · have hk0 : k2 ≠ 0 := by
                  intro e
                  subst e
                  have := decode_ascii T 0 hltT ha
                  rw [HDEC.out] at this
                  simp at this
                  omega
                have ha' : (T[k2].toNat : Int) < 128 := by omega
                clear ha
                go_wp2_with fail
                refine (writeByte_any w.heap.size w.heap.size (Lib.byteCells l) (T[k2].toNat : Int) _ HBA.out (by rw [Lib.byteCells_length]; omega) (by omega)).mono ?_
                rintro e w6 ⟨rfl, hba6, hb6⟩
                rw [byteCells_snoc] at hba6
                go_wp2_with fail
                go_roundw
                case rel => exact ⟨k2 + 1, l ++ [T[k2]], false, by omega, rfl, by go_num, hba6, hbr.trans hb6, Or.inr (by simp; omega)⟩
                case measure => simp [intOf] <;> omega
              · have hch := decode_chunk T k2 hltT (by omega)
                have hwd2 := width_pos' T k2 hltT
                have hk0 : k2 = 0 → Utf8.decode T k2 = (65533, 1) := by
                  intro e; subst e; exact HDEC.out
                have ha' : ¬ (T[k2].toNat : Int) < 128 := by omega
                have HK0 := Lib.hid hk0
                have HCH := Lib.hid hch
                clear ha hk0 hch
                have G6 := Lib.hid (HG.out.below hbr)
                go_wp2_with fail
                refine (Tryd.utf8_DecodeRuneInString (T.extract k2 T.size) _ G6.out.u8).mono ?_
                have hdg : Lib.decodeGo (T.extract k2 T.size) = Utf8.decode T k2 := by
                  unfold Lib.decodeGo
                  rw [if_neg (by simp; omega), HDK.out]
                rw [hdg]
                rintro e w6 ⟨rfl, hb6⟩
                have hba6 : BAt w.heap.size w.heap.size (Lib.byteCells l) w6 := HBA.out.below hb6
                have B6 : Below w.heap.size w w6 := hbr.trans (hb6.mono (by omega))
                have hz6 := hb6.size
                clear hdg hb6
                generalize Utf8.decode T k2 = d at *
                obtain ⟨r, wd⟩ := d
                simp only at *
                by_cases hw : wd = 1
                · subst hw
                  cases bi
                  · go_wp2_with fail
                    refine (writeString_any w.heap.size w.heap.size (Lib.byteCells l) ⟨#[]⟩ _ hba6 (by rw [Lib.byteCells_length]; show _ + 0 ≤ _; omega) (by omega)).mono ?_
                    rintro e w7 ⟨rfl, hba7, hb7, _⟩
                    have hba8 : BAt w.heap.size w.heap.size (Lib.byteCells l) w7 := by
                      have := hba7
                      rw [byteCells_str] at this
                      simpa using this
                    go_wp2_with fail
                    go_roundw
                    case rel => exact ⟨k2 + 1, l, true, by omega, rfl, by go_num, hba8, B6.trans hb7, Or.inr (by omega)⟩
                    case measure => simp [intOf] <;> omega
                  · go_wp2_with fail
                    go_roundw
                    case rel => exact ⟨k2 + 1, l, true, by omega, rfl, by go_num, hba6, B6, Or.inr (by omega)⟩
                    case measure => simp [intOf] <;> omega
                · have hwn : ((wd : Int) == 1) = false := by simp; omega
                  have hk0 : k2 ≠ 0 := fun e => hw (by have := HK0.out e; simpa using congrArg Prod.snd this)
                  have hpw : k2 + wd ≤ T.size := by
                    rcases HCH.out with h | h
                    · exact absurd (by simpa using congrArg Prod.snd h) hw
                    · exact h.2.1
                  have hxx : (T.extract k2 (k2 + wd)).size = wd := by simp; omega
                  clear hw
                  go_wp2_with fail
                  refine (writeString_any w.heap.size w.heap.size (Lib.byteCells l) (T.extract k2 (k2 + wd)) _ hba6 (by rw [Lib.byteCells_length, hxx]; omega) (by omega)).mono ?_
                  rintro e w7 ⟨rfl, hba7, hb7, _⟩
                  rw [byteCells_str] at hba7
                  have hxl : (T.extract k2 (k2 + wd)).data.toList.length = wd := hxx
                  go_wp2_with fail
                  go_roundw
                  case rel => exact ⟨k2 + wd, l ++ (T.extract k2 (k2 + wd)).data.toList, false, by omega, rfl, congrArg (Value.int .i64) (by omega), hba7, B6.trans hb7, Or.inr (by rw [List.length_append, hxl]; omega)⟩
                  case measure => simp [intOf] <;> omega
            · have hltI : ¬ (k2 : Int) < T.size := by omega
              have hlast : l.length < s.size := by omega
              go_wp2_with fail
              refine (Tryd.Builder_String_any_f w.heap.size w.heap.size l _ (Or.inr HBA.out) (by omega)).mono ?_
              rintro e w6 ⟨rfl, _, hb6⟩
              go_wp2_with fail
              go_ret
              exact ⟨_, rfl, Or.inr ⟨HNVU.out, hlast⟩, hbr.trans hb6⟩
        · have hwn : ((wd : Int) == 1) = false := by simp; omega
          have hne : ((65533, wd) : Nat × Nat) ≠ (65533, 1) := by simp [hw1]
          have HALLN := Lib.hid (HALL'.out hne)
          have hpw : pos + wd ≤ s.size := by rcases hchunk with h | h; exact absurd h hne; exact h
          clear hne hchunk hw1
          have hz2 := hb2.size
          have hbk2 : Hid (w2.heap[w.heap.size]? = some (.cells #[.pointer none, .slice none 0 0] 68 (0, 0))) := by show _ = _; rw [hb2.block _ (by omega)]; exact HBKW.out
          have hit2 : Hid (w2.heap[w.heap.size + 1]? = some (.stringIter s (pos + wd))) := by show _ = _; rw [hb2.block _ (by omega)]; exact HITW.out
          go_wp2_with fail
          go_roundw
          case rel => exact ⟨rfl, k + 1, by rw [HSUC.out]; omega, HALLN.out, hbk2.out, by rw [HSUC.out]; exact hit2.out, BW.trans (hb2.mono (by omega)), by omega⟩
          case measure => rw [iterPos_of' hit2.out, HPOS.out]; omega
      · have hrn : ((r : Int) != 65533) = true := by simp; omega
        have hne : ((r, wd) : Nat × Nat) ≠ (65533, 1) := by simp [hre]
        have HALLN := Lib.hid (HALL'.out hne)
        have hpw : pos + wd ≤ s.size := by rcases hchunk with h | h; exact absurd h hne; exact h
        clear hre hne hchunk
        go_wp2_with fail
        go_roundw
        case rel => exact ⟨rfl, k + 1, by rw [HSUC.out]; omega, HALLN.out, HBKW.out, by rw [HSUC.out]; exact HITW.out, BW, hzW⟩
        case measure => rw [iterPos_of' HITW.out, HPOS.out]; omega
    · have hnx : ∀ ty, (Instr.next (.pointer (some ⟨w.heap.size + 1, 0, none⟩)) true ty).run Tryd.prog wr = _ := fun ty => Lib.run_next_end_at wr (w.heap.size + 1) s pos ty hit hp
      have hc : wr.cell? ⟨w.heap.size, 1, none⟩ = some (.slice none 0 0) := by rw [Lib.cell_of_heap HBK.out]; rfl
      clear hit
      go_wp2_with fail
      refine (cap_any w.heap.size 0 0 none _ hc).mono ?_
      rintro e w2 ⟨rfl, rfl⟩
      go_wp2_with fail
      go_ret
      exact ⟨s, rfl, Or.inl ⟨HVU.out (by omega) HALL.out, rfl⟩, hb⟩
end Go.Proofs.YtdmchgmcbnjelaaDoor
