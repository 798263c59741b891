/- Walks: the reference's text taken to pieces. -/
import Derived.Test.YtdmchgmcbnjelaaDoorFields
import Derived.OwnWalk
namespace Go.Proofs.YtdmchgmcbnjelaaDoor
open Go.RowKit

theorem info9' : (Tryd.prog.info? 9).map (fun i => (i.zero, i.size, i.bytes)) = some (some (.string ByteArray.empty), 1, 16) := by kernel_rfl

def FieldsTell (s : ByteArray) (w : World) (e : Ending) (w' : World) : Prop :=
  ∃ (v : Value) (ss : List ByteArray), e = .returned v ∧ fieldsL s.data.toList = texts ss ∧ w'.ownsRow w.heap.size 9 1 v ss.length (ss.map Value.string) ∧ Below w.heap.size w w'

theorem blank_test (c : UInt8) : blank c = (((c.toNat : Int) == 32) || ((c.toNat : Int) == 9)) := by
  unfold blank
  rw [Bool.eq_iff_iff]; simp; omega

/-- the relation of the loop -/
def RLoop (s : ByteArray) (w : World) (v f i : Value) (wr : World) : Prop :=
  ∃ (n : Nat) (ss : List ByteArray) (k : Int), n ≤ s.size + 1 ∧ ss.length ≤ n ∧ i = .int .i64 n ∧ f = .int .i64 k ∧ RelF s n ss k ∧ wr.ownsRow w.heap.size 9 1 v ss.length (ss.map Value.string) ∧ Below w.heap.size w wr

set_option maxHeartbeats 2000000 in
set_option maxRecDepth 100000 in
theorem rfields_any (s : ByteArray) (w : World) (hs : s.size ≤ 1000) :
    Calls Tryd.prog 13 #[.string s] w (FieldsTell s w) := by
  obtain ⟨i0, hi0, hz0, hz1, hz2⟩ := info_parts info9'
  go_enter Tryd.func13, Tryd.ntmps13
  go_wp2_with fail
  go_loopw [3, 4, 5] (fun v f i wr => RLoop s w v f i wr) (fun _ _ i _ => s.size + 2 - (intOf i).toNat)
  case atStart => exact ⟨0, [], -1, by omega, by simp, rfl, rfl, RelF.start s, World.ownsRow_nil _ _ _ _, Below.refl _ _⟩
  case round =>
    obtain ⟨n, ss, k, hn, hssl, rfl, rfl, hR, hown, hb⟩ := hrel
    have hRb := hR.bd
    have HR := Lib.hid hR
    have HOWN := Lib.hid hown
    clear hR hown
    by_cases hend : s.size < n
    · have hend' : ¬ (n : Int) ≤ s.size := by omega
      go_wp2_with fail
      go_ret
      exact ⟨_, ss, rfl, HR.out.done hend, HOWN.out, hb⟩
    · have hend' : (n : Int) ≤ s.size := by omega
      by_cases hlast : n = s.size
      · subst hlast
        have hl' : ((s.size : Int) == (s.size : Int)) = true := by simp
        rcases hRb with hk | ⟨k', hk, hk2⟩
        · subst hk
          go_wp2_with fail
          go_roundw
          case rel => exact ⟨s.size + 1, ss, -1, by omega, by omega, by go_num, rfl, HR.out.end_shut, HOWN.out, hb⟩
          case measure => simp [intOf] <;> omega
        · subst hk
          have hkle : (0 : Int) ≤ (k' : Int) := by omega
          go_wp2_with ((at_builtin; refine wpList_append_own _ rfl _ _ 44 rfl w.heap.size 9 i0 (.string ByteArray.empty) 1 16 Tryd.underlying44 hi0 hz0 hz1 hz2 rfl (by decide) _ _ _ rfl (HOWN.out.alloc _) ⟨wr.heap.size, 0, none⟩ 1 1 [.string (s.extract k' s.size)] rfl rfl (cell_one_new _ _ _) (by simp [Value.oneCell']) (by unfold maxLen; omega) (by omega) (by rw [World.size_alloc]; have := hb.size; omega) ?_; intro v' w1 hown1 hgrow _))
          go_roundw
          case rel =>
            refine ⟨s.size + 1, ss ++ [s.extract k' s.size], -1, by omega, by simp; omega, by go_num, rfl, HR.out.end_open, by simpa using hown1, ?_⟩
            exact (hb.alloc hb.size _).grown hgrow (by rw [World.size_alloc]; have := hb.size; omega) (fun q hq => (HOWN.out.lt q hq).1)
          case measure => simp [intOf] <;> omega
      · have hlt : n < s.size := by omega
        have hl' : ((n : Int) == (s.size : Int)) = false := by simp; omega
        cases hbl : blank s[n]
        · have hbt := blank_test s[n]
          rw [hbl] at hbt
          have hb1 : ((s[n].toNat : Int) == 32) = false := by revert hbt; cases ((s[n].toNat : Int) == 32) <;> simp
          have hb2 : ((s[n].toNat : Int) == 9) = false := by revert hbt; cases ((s[n].toNat : Int) == 9) <;> simp
          have HBL := Lib.hid hbl
          clear hbl hbt
          rcases hRb with hk | ⟨k', hk, hk2⟩
          · subst hk
            go_wp2_with fail
            go_roundw
            case rel => exact ⟨n + 1, ss, n, by omega, by omega, by go_num, rfl, HR.out.new hlt HBL.out, HOWN.out, hb⟩
            case measure => simp [intOf] <;> omega
          · subst hk
            go_wp2_with fail
            go_roundw
            case rel => exact ⟨n + 1, ss, k', by omega, by omega, by go_num, rfl, HR.out.more hlt HBL.out, HOWN.out, hb⟩
            case measure => simp [intOf] <;> omega
        · have hbt := blank_test s[n]
          rw [hbl] at hbt
          have hbc : ((s[n].toNat : Int) == 32) = true ∨ (((s[n].toNat : Int) == 32) = false ∧ ((s[n].toNat : Int) == 9) = true) := by
            revert hbt; cases ((s[n].toNat : Int) == 32) <;> cases ((s[n].toNat : Int) == 9) <;> simp
          have HBL := Lib.hid hbl
          clear hbl hbt
          rcases hRb with hk | ⟨k', hk, hk2⟩
          · subst hk
            rcases hbc with c1 | ⟨c1, c2⟩
            all_goals
              go_wp2_with fail
              go_roundw
              case rel => exact ⟨n + 1, ss, -1, by omega, by omega, by go_num, rfl, HR.out.blank_shut hlt HBL.out, HOWN.out, hb⟩
              case measure => simp [intOf] <;> omega
          · subst hk
            rcases hbc with c1 | ⟨c1, c2⟩
            all_goals
              have hkle : (0 : Int) ≤ (k' : Int) := by omega
              go_wp2_with ((at_builtin; refine wpList_append_own _ rfl _ _ 44 rfl w.heap.size 9 i0 (.string ByteArray.empty) 1 16 Tryd.underlying44 hi0 hz0 hz1 hz2 rfl (by decide) _ _ _ rfl (HOWN.out.alloc _) ⟨wr.heap.size, 0, none⟩ 1 1 [.string (s.extract k' n)] rfl rfl (cell_one_new _ _ _) (by simp [Value.oneCell']) (by unfold maxLen; omega) (by omega) (by rw [World.size_alloc]; have := hb.size; omega) ?_; intro v' w1 hown1 hgrow _))
              go_roundw
              case rel =>
                refine ⟨n + 1, ss ++ [s.extract k' n], -1, by omega, by simp; omega, by go_num, rfl, HR.out.blank_open hlt HBL.out, by simpa using hown1, ?_⟩
                exact (hb.alloc hb.size _).grown hgrow (by rw [World.size_alloc]; have := hb.size; omega) (fun q hq => (HOWN.out.lt q hq).1)
              case measure => simp [intOf] <;> omega
end Go.Proofs.YtdmchgmcbnjelaaDoor
