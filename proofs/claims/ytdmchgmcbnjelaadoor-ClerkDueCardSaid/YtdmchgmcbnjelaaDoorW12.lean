/- Walks: the program's text taken to pieces. -/
import Derived.Test.YtdmchgmcbnjelaaDoorW11
import Derived.Test.YtdmchgmcbnjelaaDoorUtf
import Derived.Lib.OthersKept
import Derived.WalkSmall
import Derived.RegionTactic
import Derived.Lib.SmallJoins
namespace Go.Proofs.YtdmchgmcbnjelaaDoor
open Go.RowKit

/-- the relation of the loop: k runes are read -/
def PLoop (s : ByteArray) (w : World) (v ins : Value) (wr : World) : Prop :=
  ∃ (k : Nat) (ss : List ByteArray) (b : Bool), runeAt s k ≤ s.size ∧ ss.length ≤ runeAt s k ∧ ins = .bool b ∧ foldF (s.data.toList.take (runeAt s k)) = (texts ss, b) ∧ (b = true → ss ≠ []) ∧ (∀ p ∈ ss, p.size ≤ runeAt s k) ∧
    wr.heap[w.heap.size]? = some (.stringIter s (runeAt s k)) ∧ wr.ownsRow (w.heap.size + 1) 9 1 v ss.length (ss.map Value.string) ∧ Below w.heap.size w wr ∧ w.heap.size + 1 ≤ wr.heap.size

theorem own_last {w : World} {base : Nat} {v : Value} {m : Nat} {ss0 : List ByteArray} {p : ByteArray} (hm : ss0.length = m) (h : w.ownsRow base 9 1 v (ss0 ++ [p]).length ((ss0 ++ [p]).map Value.string)) :
    ∃ g cap, v = .slice (some ⟨g, 0, none⟩) (m + 1) cap ∧ base ≤ g ∧ g < w.heap.size ∧ w.cell? ⟨g, m, none⟩ = some (.string p) ∧ w.frozen? ⟨g, m, none⟩ = false := by
  have hl : (ss0 ++ [p]).length = m + 1 := by simp [hm]
  rw [hl] at h
  have h' := h
  obtain ⟨_, h2 | ⟨g, cap, cur, rfl, hg, hh, r⟩⟩ := h
  · omega
  · refine ⟨g, cap, rfl, hg, (Array.getElem?_eq_some_iff.1 hh).1, ?_, h'.frozenAt m⟩
    rw [h'.cellAt m (by omega)]
    subst hm
    simp

theorem own_store {w : World} {base : Nat} {g cap m : Nat} {ss0 : List ByteArray} {p q : ByteArray} (hm : ss0.length = m) (h : w.ownsRow base 9 1 (.slice (some ⟨g, 0, none⟩) (m + 1) cap) (ss0 ++ [p]).length ((ss0 ++ [p]).map Value.string)) :
    (w.setCell ⟨g, m, none⟩ (.string q)).ownsRow base 9 1 (.slice (some ⟨g, 0, none⟩) (m + 1) cap) (ss0 ++ [q]).length ((ss0 ++ [q]).map Value.string) := by
  have hl : ∀ x, (ss0 ++ [x]).length = m + 1 := fun x => by simp [hm]
  rw [hl] at h ⊢
  have := h.stored m (.string q)
  have e : (List.map Value.string (ss0 ++ [p])).set m (.string q) = List.map Value.string (ss0 ++ [q]) := by
    subst hm
    simp
  rw [e] at this
  exact this.1

theorem pstep_more {s : ByteArray} {pos wd : Nat} {ss0 : List ByteArray} {p : ByteArray} (h : foldF (s.data.toList.take pos) = (texts (ss0 ++ [p]), true)) (h2 : pos + wd ≤ s.size)
    (hb : ∀ j, j < wd → ∀ h : pos + j < s.size, blank s[pos + j] = false) : foldF (s.data.toList.take (pos + wd)) = (texts (ss0 ++ [p ++ s.extract pos (pos + wd)]), true) := by
  rw [take_chunk s pos wd, foldF_app, h, texts_snoc, texts_snoc, fold_more _ _ _ (mem_extract s pos wd h2 hb), Joins.data_append]

theorem pstep_new {s : ByteArray} {pos wd : Nat} {ss : List ByteArray} (h : foldF (s.data.toList.take pos) = (texts ss, false)) (h1 : 1 ≤ wd) (h2 : pos + wd ≤ s.size)
    (hb : ∀ j, j < wd → ∀ h : pos + j < s.size, blank s[pos + j] = false) (q : ByteArray) (hq : q.data.toList = (s.extract pos (pos + wd)).data.toList) : foldF (s.data.toList.take (pos + wd)) = (texts (ss ++ [q]), true) := by
  have hne : (s.extract pos (pos + wd)).data.toList ≠ [] := by
    intro e
    have := congrArg List.length e
    simp at this
    omega
  rw [take_chunk s pos wd, foldF_app, h, texts_snoc, hq, fold_new _ hne _ (mem_extract s pos wd h2 hb)]

theorem pstep_blank {s : ByteArray} {pos : Nat} {ss : List ByteArray} {b : Bool} (h : foldF (s.data.toList.take pos) = (texts ss, b)) (hp : pos < s.size) (hb : blank s[pos] = true) :
    foldF (s.data.toList.take (pos + 1)) = (texts ss, false) := by
  rw [take_snoc' s pos hp, foldF_snoc, h, step_blank _ _ _ hb]

theorem iterPos_of' {w : World} {k : Nat} {s : ByteArray} {p : Nat} (h : w.heap[k]? = some (.stringIter s p)) : w.iterPos k = p := by unfold World.iterPos; rw [h]

set_option maxHeartbeats 4000000 in
set_option maxRecDepth 100000 in
theorem fields_any (s : ByteArray) (w : World) (hs : s.size ≤ 1000) (hV : VU s) :
    Calls Tryd.prog 20 #[.string s] w (FieldsTell s w) := by
  obtain ⟨i0, hi0, hz0, hz1, hz2⟩ := info_parts info9'
  have HV := Lib.hid hV
  clear hV
  go_enter Tryd.func20, Tryd.ntmps20
  go_wp2_with fail
  go_loopw [3, 4] (fun v ins wr => PLoop s w v ins wr) (fun _ _ wr => s.size - wr.iterPos w.heap.size)
  case atStart =>
    refine ⟨0, [], false, by simp [runeAt], by simp, rfl, rfl, by simp, by simp, ?_, World.ownsRow_nil _ _ _ _, (Below.refl _ _).alloc (Nat.le_refl _) _, Nat.le_of_eq (World.size_alloc ..).symm⟩
    exact World.iter_heap w s 0
  case round =>
    obtain ⟨k, ss, b, hk, hssl, rfl, hF, hbn, hps, hit, hown, hb, hsz⟩ := hrel
    have HF := Lib.hid hF
    have HOWN := Lib.hid hown
    have HIT := Lib.hid hit
    have HBN := Lib.hid hbn
    have HPS := Lib.hid hps
    have hcb := chunk_blank (k := k) HV.out
    have hsucc : runeAt s (k + 1) = runeAt s k + (Utf8.decode s (runeAt s k)).2 := rfl
    have HSUC := Lib.hid hsucc
    have hpos : wr.iterPos w.heap.size = runeAt s k := by unfold World.iterPos; rw [hit]
    have HPOS := Lib.hid hpos
    clear hF hown hbn hps hsucc hpos
    generalize runeAt s k = pos at *
    by_cases hp : pos < s.size
    · have hnx0 : ∀ ty, (Instr.next (.pointer (some ⟨w.heap.size, 0, none⟩)) true ty).run Tryd.prog wr = _ := fun ty => Lib.run_next_any_at wr w.heap.size s pos ty hit hp
      obtain ⟨W, hW⟩ : ∃ W, wr.iterAt w.heap.size s (pos + (Utf8.decode s pos).2) = W := ⟨_, rfl⟩
      have HITW : Hid (W.heap[w.heap.size]? = some (.stringIter s (pos + (Utf8.decode s pos).2))) := by rw [← hW]; exact Lib.iterAt_heap wr w.heap.size s pos _ hit
      have hzW : w.heap.size + 1 ≤ W.heap.size := by rw [← hW, Lib.iterAt_size]; exact hsz
      have BW : Below w.heap.size w W := by rw [← hW]; exact Lib.below_iterAt hb (Nat.le_refl _) s _
      have OWNW : Hid (W.ownsRow (w.heap.size + 1) 9 1 u3 ss.length (ss.map Value.string)) := by rw [← hW]; exact ownsRow_iterAt HOWN.out (Nat.lt_succ_self w.heap.size) s _
      rw [hW] at hnx0
      have hnx := hnx0
      clear hnx0 hW HOWN hb hsz HIT
      obtain ⟨q1, q2⟩ := hcb hp
      clear hcb hit
      cases hbl : blank s[pos]
      · have q3 := q2 hbl
        clear q1 q2 hbl
        obtain ⟨g1, g2, g3, g4, g5, g6⟩ := q3
        generalize Utf8.decode s pos = d at *
        obtain ⟨r, wd⟩ := d
        simp only at *
        have G6 := Lib.hid g6
        clear g6
        have hexs : (s.extract pos (pos + wd)).size ≤ 1000 := by simp; omega
        cases b
        · go_wp2_with ((at_builtin; refine wpList_append_own _ rfl _ _ 44 rfl (w.heap.size + 1) 9 i0 (.string ByteArray.empty) 1 16 Tryd.underlying44 hi0 hz0 hz1 hz2 rfl (by decide) _ _ _ rfl (OWNW.out.alloc _) ⟨W.heap.size, 0, none⟩ 1 1 [.string ⟨#[]⟩] rfl rfl (cell_one_new _ _ _) (by simp [Value.oneCell']) (by unfold maxLen; omega) (by omega) (by rw [World.size_alloc]; omega) ?_; intro v' w1 hown1 hgrow _))
          obtain ⟨m, hm⟩ : ∃ m, ss.length = m := ⟨_, rfl⟩
          have hown2 : w1.ownsRow (w.heap.size + 1) 9 1 v' (ss ++ [ByteArray.mk #[]]).length ((ss ++ [ByteArray.mk #[]]).map Value.string) := by simpa using hown1
          obtain ⟨g, cap, rfl, hg1, hg2, hgc, hgf⟩ := own_last hm hown2
          have B1 : Below w.heap.size w w1 := (BW.alloc (by omega) _).grown hgrow (by rw [World.size_alloc]; omega) (fun q hq => by have := (OWNW.out.lt q hq).1; omega)
          have HIT1 : Hid (w1.heap[w.heap.size]? = some (.stringIter s (pos + wd))) := by
            show _ = _
            rw [hgrow.block w.heap.size (by rw [World.size_alloc]; omega) (fun e => by have := (OWNW.out.lt _ e.symm).1; omega), Below.heap_alloc _ _ _ (by omega)]
            exact HITW.out
          have HM := Lib.hid hm
          have hml : m ≤ 1000 := by omega
          have OWN2 := Lib.hid hown2
          clear hm hown1 hown2 hgrow
          have hqe : ((ByteArray.mk #[]) ++ s.extract pos (pos + wd)).data.toList = (s.extract pos (pos + wd)).data.toList := by
            rw [Joins.data_append]; rfl
          have HQE := Lib.hid hqe
          clear hqe
          go_region
          go_wp2_with fail
          have hit' : Hid (((w1.setCell ⟨g, m, none⟩ (.string ((ByteArray.mk #[]) ++ s.extract pos (pos + wd)))).drew).heap[w.heap.size]? = some (.stringIter s (pos + wd))) := by
            show (w1.setCell ⟨g, m, none⟩ _).heap[w.heap.size]? = _
            rw [Below.heap_setCell _ _ _ _ (by simp; omega)]
            exact HIT1.out
          have hz1 := hg2
          go_roundw
          case rel =>
            refine ⟨k + 1, ss ++ [(ByteArray.mk #[]) ++ s.extract pos (pos + wd)], true, ?_, ?_, rfl, ?_, by simp, ?_, ?_, own_store HM.out OWN2.out, (B1.setCell (by simp; omega) _).drew, by simp [World.setCell]; omega⟩
            · rw [HSUC.out]; omega
            · rw [HSUC.out]; simp; omega
            · rw [HSUC.out]; exact pstep_new HF.out g1 g2 G6.out _ HQE.out
            · rw [HSUC.out]
              intro q hq
              rw [List.mem_append] at hq
              rcases hq with hq | hq
              · have := HPS.out q hq; omega
              · simp at hq
                subst hq
                have e : ((ByteArray.mk #[]) ++ s.extract pos (pos + wd)).size = (s.extract pos (pos + wd)).size := by
                  rw [ByteArray.size_append]; show 0 + _ = _; omega
                rw [e]; simp; omega
            · rw [HSUC.out]; exact hit'.out
          case measure => rw [iterPos_of' hit'.out, HPOS.out]; omega
        · obtain ⟨ss0, p, rfl⟩ : ∃ ss0 p, ss = ss0 ++ [p] := ⟨_, _, (List.dropLast_concat_getLast (HBN.out rfl)).symm⟩
          obtain ⟨m, hm⟩ : ∃ m, ss0.length = m := ⟨_, rfl⟩
          obtain ⟨g, cap, rfl, hg1, hg2, hgc, hgf⟩ := own_last hm OWNW.out
          have HM := Lib.hid hm
          have hml : m ≤ 1000 := by simp [hm] at hssl; omega
          have hpp : p.size ≤ 1000 := by have := HPS.out p (by simp); omega
          clear hm
          go_wp2_with fail
          go_region
          go_wp2_with fail
          have hit' : Hid (((W.setCell ⟨g, m, none⟩ (.string (p ++ s.extract pos (pos + wd)))).drew).heap[w.heap.size]? = some (.stringIter s (pos + wd))) := by
            show (W.setCell ⟨g, m, none⟩ _).heap[w.heap.size]? = _
            rw [Below.heap_setCell _ _ _ _ (by simp; omega)]
            exact HITW.out
          go_roundw
          case rel =>
            refine ⟨k + 1, ss0 ++ [p ++ s.extract pos (pos + wd)], true, ?_, ?_, rfl, ?_, by simp, ?_, ?_, own_store HM.out OWNW.out, (BW.setCell (by simp; omega) _).drew, by simp [World.setCell]; omega⟩
            · rw [HSUC.out]; omega
            · rw [HSUC.out]; simp at hssl ⊢; omega
            · rw [HSUC.out]; exact pstep_more HF.out g2 G6.out
            · rw [HSUC.out]
              intro q hq
              rw [List.mem_append] at hq
              rcases hq with hq | hq
              · have := HPS.out q (by simp [hq]); omega
              · simp at hq
                subst hq
                have := HPS.out p (by simp)
                simp; omega
            · rw [HSUC.out]; exact hit'.out
          case measure => rw [iterPos_of' hit'.out, HPOS.out]; omega
      · have q3 := q1 hbl
        clear q1 q2
        have HBL := Lib.hid hbl
        have h1 := congrArg Prod.fst q3
        have h2 := congrArg Prod.snd q3
        simp only at h1 h2
        clear q3 hbl
        generalize Utf8.decode s pos = d at *
        obtain ⟨r, wd⟩ := d
        simp only at *
        subst h1 h2
        have hbt := blank_test s[pos]
        rw [HBL.out] at hbt
        have hbc : ((s[pos].toNat : Int) == 32) = true ∨ (((s[pos].toNat : Int) == 32) = false ∧ ((s[pos].toNat : Int) == 9) = true) := by
          revert hbt; cases ((s[pos].toNat : Int) == 32) <;> cases ((s[pos].toNat : Int) == 9) <;> simp
        clear hbt
        rcases hbc with c1 | ⟨c1, c2⟩
        all_goals
          go_wp2_with fail
          go_roundw
          case rel =>
            refine ⟨k + 1, ss, false, ?_, ?_, rfl, ?_, by simp, ?_, ?_, OWNW.out, BW, hzW⟩
            · rw [HSUC.out]; omega
            · rw [HSUC.out]; omega
            · rw [HSUC.out]; exact pstep_blank HF.out hp HBL.out
            · rw [HSUC.out]; intro q hq; have := HPS.out q hq; omega
            · rw [HSUC.out]; exact HITW.out
          case measure => rw [iterPos_of' HITW.out, HPOS.out]; omega
    · have hnx : ∀ ty, (Instr.next (.pointer (some ⟨w.heap.size, 0, none⟩)) true ty).run Tryd.prog wr = _ := fun ty => Lib.run_next_end_at wr w.heap.size s pos ty hit hp
      clear hit hcb
      go_wp2_with fail
      go_ret
      refine ⟨_, ss, rfl, ?_, ?_, hb⟩
      · have hps : pos = s.size := by omega
        have := HF.out
        rw [hps, List.take_of_length_le (by simp)] at this
        unfold fieldsL
        rw [this]
      · obtain ⟨h1, h2⟩ := HOWN.out
        refine ⟨h1, ?_⟩
        rcases h2 with h2 | ⟨g, cap, cur, e1, e2, e3⟩
        · exact Or.inl h2
        · exact Or.inr ⟨g, cap, cur, e1, by omega, e3⟩
end Go.Proofs.YtdmchgmcbnjelaaDoor
