/- Walks: the program's search for the next minute. -/
import Derived.Test.YtdmchgmcbnjelaaDoorW5
namespace Go.Proofs.YtdmchgmcbnjelaaDoor
open Go.RowKit

def NextIs (E : Ex) (after n c : Int) : Prop :=
  (c = 0 ∧ after < n ∧ n ≤ after + 4216320 ∧ Match E n ∧ ∀ k : Int, after < k → k < n → ¬ Match E k) ∨ (c ≠ 0 ∧ n = 0 ∧ ∀ k : Int, after < k → k ≤ after + 4216320 → ¬ Match E k)
def NextTells (E : Ex) (after : Int) (w : World) (e : Ending) (w' : World) : Prop := ∃ n c : Int, e = .returned (.tuple #[.int .i64 n, .int .i64 c]) ∧ NextIs E after n c ∧ Below w.heap.size w w'

/-- minutes of one day -/
theorem match_day {E : Ex} {m n k y mo d : Int} (hn : (m + 1035593280) / 1440 = n) (h0 : 0 ≤ m) (h1 : m ≤ 4223371679) (hD : Cal.IsDate n y mo d) (hk : m - m % 1440 ≤ k) (hk2 : k < m - m % 1440 + 1440) :
    Match E k ↔ (okM E (k - (m - m % 1440)) && dayB E mo d ((n + 1) % 7)) = true := by
  rw [match_iff (n := n) (r := k - (m - m % 1440)) (by omega) (by omega) (by omega) (by omega) (by omega) hD]
  rfl

theorem day_none {E : Ex} {m n y mo d : Int} (hn : (m + 1035593280) / 1440 = n) (h0 : 0 ≤ m) (h1 : m ≤ 4223371679) (hD : Cal.IsDate n y mo d) (hb : dayB E mo d ((n + 1) % 7) = false) :
    ∀ k : Int, m ≤ k → k < m - m % 1440 + 1440 → ¬ Match E k := by
  intro k k1 k2
  rw [match_day hn h0 h1 hD (by omega) k2, hb]; simp

theorem early_none {E : Ex} {m n y mo d r : Int} (hn : (m + 1035593280) / 1440 = n) (h0 : 0 ≤ m) (h1 : m ≤ 4223371679) (hD : Cal.IsDate n y mo d) (hr : EarlyIs E (m % 1440) r) (hneg : r < 0) :
    ∀ k : Int, m ≤ k → k < m - m % 1440 + 1440 → ¬ Match E k := by
  intro k k1 k2
  rw [match_day hn h0 h1 hD (by omega) k2]
  rcases hr with ⟨_, a⟩ | ⟨a, _⟩
  · rw [a _ (by omega) (by omega)]; simp
  · omega

theorem early_some {E : Ex} {m n y mo d r : Int} (hn : (m + 1035593280) / 1440 = n) (h0 : 0 ≤ m) (h1 : m ≤ 4223371679) (hD : Cal.IsDate n y mo d) (hb : dayB E mo d ((n + 1) % 7) = true) (hr : EarlyIs E (m % 1440) r) (hneg : 0 ≤ r) :
    m ≤ m - m % 1440 + r ∧ r < 1440 ∧ Match E (m - m % 1440 + r) ∧ ∀ k : Int, m ≤ k → k < m - m % 1440 + r → ¬ Match E k := by
  rcases hr with ⟨a, _⟩ | ⟨a1, a2, a3, a4⟩
  · omega
  refine ⟨by omega, a2, ?_, fun k k1 k2 => ?_⟩
  · rw [match_day hn h0 h1 hD (by omega) (by omega), hb, show m - m % 1440 + r - (m - m % 1440) = r from by omega, a3]; rfl
  · rw [match_day hn h0 h1 hD (by omega) (by omega), a4 _ (by omega) (by omega)]; simp

theorem nextTells_mk {E : Ex} {after n c : Int} {w w' : World} (h : NextIs E after n c) (hb : Below w.heap.size w w') : NextTells E after w (.returned (.tuple #[.int .i64 n, .int .i64 c])) w' := ⟨n, c, rfl, h, hb⟩

/-- of all the minutes behind 'after' and ahead of m none matches -/
def NoneTill (E : Ex) (after m : Int) : Prop := ∀ k : Int, after < k → k < m → k ≤ after + 4216320 → ¬ Match E k

theorem NoneTill.step {E : Ex} {after m m' : Int} (h : NoneTill E after m) (hs : ∀ k : Int, m ≤ k → k < m' → ¬ Match E k) : NoneTill E after m' := by
  intro k k1 k2 k3
  rcases Int.lt_or_le k m with q | q
  · exact h k k1 q k3
  · exact hs k q k2

theorem NoneTill.stop {E : Ex} {after m : Int} (h : NoneTill E after m) (hm : after + 4216320 < m) : NextIs E after 0 28 :=
  Or.inr ⟨by decide, rfl, fun k k1 k2 => h k k1 (by omega) k2⟩

theorem NoneTill.far {E : Ex} {after m : Int} (h : NoneTill E after m) (hm : 4223371679 < m) : NextIs E after 0 28 := by
  refine Or.inr ⟨by decide, rfl, fun k k1 k2 => ?_⟩
  rcases Int.lt_or_le k m with q | q
  · exact h k k1 q k2
  · exact match_err (by omega)

theorem bcellB {B : Nat} {W w1 : World} (hb : Below B W w1) : (∀ b o, b < B → w1.cell? ⟨b, o, none⟩ = W.cell? ⟨b, o, none⟩) ∧ (∀ b o, b < B → w1.frozen? ⟨b, o, none⟩ = W.frozen? ⟨b, o, none⟩) :=
  ⟨fun b o h => hb.cell (p := ⟨b, o, none⟩) h, fun b o h => hb.frozen (p := ⟨b, o, none⟩) h⟩

set_option maxHeartbeats 2000000 in
theorem next_any (E : Ex) (hE : E.Ok) (after : Int) (w : World) (h0 : -1 ≤ after) (hT : Tab w) :
    Calls Tryd.prog 11 #[.agg #[.int .u64 E.mi, .int .u64 E.ho, .int .u64 E.da, .int .u64 E.mo, .int .u64 E.we, .bool E.ad, .bool E.aw], .int .i64 after] w (NextTells E after w) := by
  have hE' := Lib.hid hE
  obtain ⟨mi, ho, da, mo, we, ad, aw⟩ := E
  have HT := Lib.hid hT
  clear hT hE
  simp only at *
  rcases Int.lt_or_le 4223371679 after with h1 | h1
  · go_enter Tryd.func11, Tryd.ntmps11
    go_wp2_with fail
    refine (of_err after _ (Or.inr h1)).mono ?_
    rintro e w1 ⟨rfl, hb1⟩
    have hz : w.heap.size < w1.heap.size := by have := hb1.size; simp at this; omega
    go_wp2_with fail
    go_ret2
    exact nextTells_mk (Or.inr ⟨by decide, rfl, fun k k1 k2 => match_err (by omega)⟩) ((((Below.refl _ _).alloc (Nat.le_refl _) _).trans (hb1.mono (by simp))).alloc (by omega) _)
  · go_enter Tryd.func11, Tryd.ntmps11
    go_wp2_with fail
    refine (of_any after ((after + 1035593280) / 1440) ((after + 1035593280) % 1440) _ (by omega) h1 (by omega) (by omega) (by omega) (by omega) rfl rfl).mono ?_
    rintro e w1 ⟨y, mo', d, rfl, hD, hb1⟩
    have hz : w.heap.size < w1.heap.size := by have := hb1.size; simp at this; omega
    obtain ⟨hc, hf⟩ := bcell hb1
    have B1 : Below w.heap.size w w1 := ((Below.refl w.heap.size w).alloc (Nat.le_refl _) _).trans (hb1.mono (by simp))
    clear hD
    go_wp2_with fail
    have hb0 := hb1
    clear hb1
    go_loopw [9] (fun v wr => ∃ m : Int, v = .int .i64 m ∧ after < m ∧ m ≤ after + 4216320 + 1440 ∧ NoneTill ⟨mi, ho, da, mo, we, ad, aw⟩ after m ∧ Below w1.heap.size w1 wr) (fun v _ => (after + 4216320 + 1440 - intOf v).toNat)
    case atStart => exact ⟨after + 1, rfl, by omega, by omega, fun k k1 k2 => by omega, (Below.refl _ _).alloc (Nat.le_refl _) _⟩
    case round =>
      obtain ⟨m, rfl, hm1, hm2, hN, hbr⟩ := hrel
      have hzr := hbr.size
      obtain ⟨hcr, hfr⟩ := bcellB hbr
      have hz3 : w.heap.size < wr.heap.size := by omega
      rcases Int.lt_or_le (after + 4216320) m with q | q
      · go_wp2_with fail
        go_ret2
        exact nextTells_mk (hN.stop q) (B1.trans (hbr.mono (by omega)))
      rcases Int.lt_or_le 4223371679 m with q2 | q2
      · go_wp2_with fail
        refine (of_err m _ (Or.inr q2)).mono ?_
        rintro e w2 ⟨rfl, hb2⟩
        have B2 : Below w.heap.size w w2 := (B1.trans (hbr.mono (by omega))).trans (hb2.mono (by omega))
        have hz2 := hb2.size
        go_wp2_with fail
        go_ret2
        exact nextTells_mk (hN.far q2) (B2.alloc (by omega) _)
      go_wp2_with fail
      refine (of_any m ((m + 1035593280) / 1440) ((m + 1035593280) % 1440) _ (by omega) q2 (by omega) (by omega) (by omega) (by omega) rfl rfl).mono ?_
      rintro e w2 ⟨y2, mo2, d2, rfl, hD2, hb2⟩
      have bd := hD2.bounds
      have m1 := hD2.m1
      have m2 := hD2.m2
      obtain ⟨hc2, hf2⟩ := bcell hb2
      have hz2 := hb2.size
      have hz4 : w.heap.size < w2.heap.size := by omega
      have B2 : Below w1.heap.size w1 w2 := hbr.trans (hb2.mono (by omega))
      go_wp2_with fail
      refine (fits_any ⟨mi, ho, da, mo, we, ad, aw⟩ hE'.out y2 mo2 d2 _ _ (((m + 1035593280) / 1440 + 1) % 7) _ (by omega) (by omega) (by omega) (by omega) (by omega) (by omega)).mono ?_
      rintro e w3 ⟨rfl, hb3⟩
      have hz3 := hb3.size
      rw [World.size_alloc] at hz3
      have B3 : Below w1.heap.size w1 w3 := (B2.alloc (by omega) _).trans (hb3.mono (by rw [World.size_alloc]; omega))
      have hdn := Lib.hid (day_none (E := ⟨mi, ho, da, mo, we, ad, aw⟩) rfl (by omega) q2 hD2)
      have hen := Lib.hid (fun r => early_none (E := ⟨mi, ho, da, mo, we, ad, aw⟩) (r := r) rfl (by omega) q2 hD2)
      have hes := Lib.hid (fun r => early_some (E := ⟨mi, ho, da, mo, we, ad, aw⟩) (r := r) rfl (by omega) q2 hD2)
      generalize dayB ⟨mi, ho, da, mo, we, ad, aw⟩ mo2 d2 (((m + 1035593280) / 1440 + 1) % 7) = fit at *
      have HN := Lib.hid hN
      clear hN hD2
      cases fit
      · go_wp2_with fail
        refine (floor_any m _ (by omega) (by omega)).mono ?_
        rintro e w4 ⟨rfl, rfl⟩
        go_wp2_with fail
        go_roundw
        case rel => exact ⟨_, rfl, by omega, by omega, HN.out.step (hdn.out trivial), B3⟩
        case measure => simp [intOf]; omega
      · go_wp2_with fail
        refine (floor_any m _ (by omega) (by omega)).mono ?_
        rintro e w4 ⟨rfl, rfl⟩
        go_wp2_with fail
        have hz5 : w.heap.size < w4.heap.size := by omega
        have HT3 : Tab w4 := HT.out.below (B1.trans (B3.mono (by omega)))
        refine (early_any ⟨mi, ho, da, mo, we, ad, aw⟩ hE'.out (m - (m - m % 1440)) _ (by omega) (by omega) HT3).mono ?_
        rintro e w5 ⟨r, rfl, hr, hb5⟩
        have B5 : Below w1.heap.size w1 w5 := B3.trans (hb5.mono (by omega))
        have hz6 := hb5.size
        rw [show m - (m - m % 1440) = m % 1440 from by omega] at hr
        rcases Int.lt_or_le r 0 with q3 | q3
        · have hen' := Lib.hid (hen.out r hr q3)
          go_wp2_with fail
          refine (floor_any m _ (by omega) (by omega)).mono ?_
          rintro e w6 ⟨rfl, rfl⟩
          go_wp2_with fail
          go_roundw
          case rel => exact ⟨_, rfl, by omega, by omega, HN.out.step hen'.out, B5⟩
          case measure => simp [intOf]; omega
        · obtain ⟨g1, g2, g3, g4⟩ := hes.out r trivial hr q3
          have G3 := Lib.hid g3
          have G4 := Lib.hid g4
          clear g3 g4
          go_wp2_with fail
          refine (floor_any m _ (by omega) (by omega)).mono ?_
          rintro e w6 ⟨rfl, rfl⟩
          rcases Int.lt_or_le (after + 4216320) (m - m % 1440 + r) with q4 | q4
          · go_wp2_with fail
            refine (floor_any m _ (by omega) (by omega)).mono ?_
            rintro e w6 ⟨rfl, rfl⟩
            go_wp2_with fail
            go_roundw
            case rel => exact ⟨_, rfl, by omega, by omega, fun k k1 k2 k3 => by
              rcases Int.lt_or_le k m with q5 | q5
              · exact HN.out k k1 q5 k3
              · exact G4.out k q5 (by omega), B5⟩
            case measure => simp [intOf]; omega
          · go_wp2_with fail
            go_ret2
            refine nextTells_mk (Or.inl ⟨rfl, by omega, by omega, G3.out, fun k k1 k2 => ?_⟩) (B1.trans (B5.mono (by omega)))
            rcases Int.lt_or_le k m with q5 | q5
            · exact HN.out k k1 q5 (by omega)
            · exact G4.out k q5 k2
end Go.Proofs.YtdmchgmcbnjelaaDoor
