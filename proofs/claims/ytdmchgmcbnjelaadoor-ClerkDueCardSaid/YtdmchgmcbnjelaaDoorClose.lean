/- Proved here: whatever the job, the last minute and the present minute, 'horologelaw19.ClerkDue' returns true and its arguments read as before; conditions: the three laid tables of the standard library hold what their initialisers lay (tied to the program's text by the card), and the arguments are within the form's reach; no other condition. -/
import Derived.Test.YtdmchgmcbnjelaaDoorCards
import Derived.Test.YtdmchgmcbnjelaaDoorTie
import Derived.Test.YtdmchgmcbnjelaaDoorW21
import Derived.ProofKit
import Derived.OpenShut
import Derived.HandedShaped
import Derived.Deep.DeepHandedRow
import Derived.Deep.Fields
import Derived.Lib.LaidTab
import Derived.Lib.LaidU8
import Derived.SizedLaws
import Derived.SevenTiedAt
namespace Go.Proofs.YtdmchgmcbnjelaaDoor.closing
open Go.ChangeShapes Go.WideShapes Go.ChangeAt Go.RowKit Go.Lib Go.Deep
open Go.ChangeMaps (open_string shut_string)

theorem own : ownKnob Tryd.prog.godebug = none := by kernel_rfl
theorem gTab : Tryd.prog.globalNamed "math/bits.deBruijn64tab" = some 2 := by kernel_rfl
theorem gTabType : (Tryd.prog.globals[2]?).map (·.type) = some 99 := by kernel_rfl
theorem cells99 : Tryd.prog.cellsOf 99 = 64 := by kernel_rfl
theorem cells5 : Tryd.prog.cellsOf 5 = 1 := by kernel_rfl
theorem cells23 : Tryd.prog.cellsOf 23 = 6 := by kernel_rfl

def tabZ : List Int := Lib.deBruijn64tab.map fun n : Nat => (n : Int)
theorem tabZ_is : (Rows.laid_math_bits_deBruijn64tab : DataW Unit) = tabData .u8 tabZ := by kernel_rfl
theorem acc_is : (Rows.laid_unicode_utf8_acceptRanges : DataW Unit) = acceptData := by kernel_rfl
theorem first_is : Rows.laid_unicode_utf8_first = firstData := by kernel_rfl

theorem laid_is : Rows.clerkDueRow.laid = [("math/bits.deBruijn64tab", tabData .u8 tabZ), ("unicode/utf8.acceptRanges", acceptData), ("unicode/utf8.first", firstData)] := by
  show [("math/bits.deBruijn64tab", (Rows.laid_math_bits_deBruijn64tab : DataW Unit)), ("unicode/utf8.acceptRanges", Rows.laid_unicode_utf8_acceptRanges), ("unicode/utf8.first", Rows.laid_unicode_utf8_first)] = _
  rw [tabZ_is, acc_is, first_is]

theorem size_of_cell {w : World} {b o : Nat} {v : Value} (h : w.cell? ⟨b, o, none⟩ = some v) : b < w.heap.size := by
  rcases Nat.lt_or_ge b w.heap.size with h' | h'
  · exact h'
  · unfold World.cell? at h
    simp only [Array.getElem?_eq_none h'] at h
    cases h

theorem glob {W : World} (hL : laidMet Tryd.prog Rows.clerkDueRow.laid W) (hsh : W.ShapedOpen Tryd.prog) : Glob W := by
  rw [laid_is] at hL
  obtain ⟨m, hm⟩ := Tryd.laysM219.s1_3 W hsh
  have hm' : W.cell? ⟨3, 0, none⟩ = some (.int .i64 m) := hm
  refine ⟨⟨size_of_cell hm', ?_⟩, ⟨m, hm'⟩, ?_⟩
  · intro j hj
    have h := (tabIs_of_head (rest := _) gTab gTabType Tryd.underlying99 Tryd.underlying5 cells5 cells99 hL).cell gTab j (by simpa [tabZ] using hj)
    rw [h]
    have e : tabZ.getD j 0 = ((Lib.deBruijn64tab.getD j 0 : Nat) : Int) := by simp [tabZ, List.getD, hj]
    rw [e]
  · exact utf8Tabs_of_reads (ρ := Tryd.lays260_ren) { Tryd.lays260 with } ⟨by kernel_rfl, by kernel_rfl, by kernel_rfl, by kernel_rfl, by kernel_rfl, by kernel_rfl, by kernel_rfl⟩ (laidMet.reads hL (.tail _ (.tail _ (.head _)))) (laidMet.reads hL (.tail _ (.head _)))

section
variable {H : Type} {enc : TypeId × Value → H} {P : Program} {w : World} {base : Nat} {spare : Nat → Bool} {held : Bool}
theorem array6 {cs : Array Value} (h : cs.size = 6) : ∃ a b c d e f, cs = #[a, b, c, d, e, f] := by
  rcases cs with ⟨l⟩
  match l, h with
  | [a, b, c, d, e, f], _ => exact ⟨a, b, c, d, e, f, rfl⟩

theorem open_job {r : Reach} {b0 : Nat} {v : Value} {d : DataW H} {p : List MemPlace} (hv : Value.okWide Tryd.prog w r b0 23 v) (h : DataW.Trod enc Tryd.prog w base spare held 23 v d p) :
    ∃ (j : Job), v = .agg #[.string j.name, .string j.cron, .int .i64 j.po, .int .i64 j.de, .int .i64 j.ke, .bool j.su] ∧
      d = .agg [.lit (.string j.name.data.toList), .lit (.string j.cron.data.toList), .lit (.int .i64 j.po), .lit (.int .i64 j.de), .lit (.int .i64 j.ke), .lit (.bool j.su)] ∧ p = [] ∧
      ∀ (w' : World) (base' : Nat) (sp' : Nat → Bool) (held' : Bool), DataW.Trod enc Tryd.prog w' base' sp' held' 23 v d p := by
  obtain ⟨cs, rfl, hsz⟩ := okWide_struct Tryd.underlying23 hv
  obtain ⟨c0, c1, c2, c3, c4, c5, rfl⟩ := array6 (hsz.trans cells23)
  obtain ⟨fuel, hf⟩ := h
  obtain ⟨xs, n, rfl, hxe, hl, hlen, hx⟩ := DataW.trod_struct Tryd.underlying23 hf
  obtain ⟨y0, y1, y2, y3, y4, y5, rfl⟩ : ∃ y0 y1 y2 y3 y4 y5, xs = [y0, y1, y2, y3, y4, y5] := by
    match xs, hlen with
    | [y0, y1, y2, y3, y4, y5], _ => exact ⟨y0, y1, y2, y3, y4, y5, rfl⟩
  have c9 : Tryd.prog.cellsOf 9 = 1 := by kernel_rfl
  have c3' : Tryd.prog.cellsOf 3 = 1 := by kernel_rfl
  have c4' : Tryd.prog.cellsOf 4 = 1 := by kernel_rfl
  have h0 : DataW.trod enc Tryd.prog w base spare held n 9 [c0] = some y0 := by simpa [Value.cells, c9] using hx 0 _ rfl
  have h1 : DataW.trod enc Tryd.prog w base spare held n 9 [c1] = some y1 := by simpa [Value.cells, c9] using hx 1 _ rfl
  have h2 : DataW.trod enc Tryd.prog w base spare held n 3 [c2] = some y2 := by simpa [Value.cells, c3'] using hx 2 _ rfl
  have h3 : DataW.trod enc Tryd.prog w base spare held n 3 [c3] = some y3 := by simpa [Value.cells, c3'] using hx 3 _ rfl
  have h4 : DataW.trod enc Tryd.prog w base spare held n 3 [c4] = some y4 := by simpa [Value.cells, c3'] using hx 4 _ rfl
  have h5 : DataW.trod enc Tryd.prog w base spare held n 4 [c5] = some y5 := by simpa [Value.cells, c4'] using hx 5 _ rfl
  obtain ⟨s0, e0, rfl, w0⟩ := DataW.trod_string Tryd.underlying9 h0
  obtain ⟨s1, e1, rfl, w1⟩ := DataW.trod_string Tryd.underlying9 h1
  obtain ⟨i2, e2, rfl, w2⟩ := DataW.trod_int Tryd.underlying3 h2
  obtain ⟨i3, e3, rfl, w3⟩ := DataW.trod_int Tryd.underlying3 h3
  obtain ⟨i4, e4, rfl, w4⟩ := DataW.trod_int Tryd.underlying3 h4
  obtain ⟨b5, e5, rfl⟩ := DataW.trod_bool Tryd.underlying4 h5
  simp only [List.cons.injEq, and_true] at e0 e1 e2 e3 e4 e5
  subst e0 e1 e2 e3 e4 e5
  simp only [List.map, List.flatMap_cons, List.flatMap_nil, List.append_nil, Prod.mk.injEq] at hxe
  obtain ⟨rfl, rfl⟩ := hxe
  refine ⟨⟨s0, s1, i2, i3, i4, b5⟩, rfl, rfl, rfl, fun w' base' sp' held' => ⟨3, ?_⟩⟩
  refine trod_struct_mk (n := 2) (xs := [(.lit (.string s0.data.toList), []), (.lit (.string s1.data.toList), []), (.lit (.int .i64 i2), []), (.lit (.int .i64 i3), []), (.lit (.int .i64 i4), []), (.lit (.bool b5), [])]) Tryd.underlying23 hl ?_
  have t0 : DataW.trod enc Tryd.prog w' base' sp' held' 2 9 [.string s0] = some (.lit (.string s0.data.toList), []) := by simp [DataW.trod, Tryd.underlying9, w0]
  have t1 : DataW.trod enc Tryd.prog w' base' sp' held' 2 9 [.string s1] = some (.lit (.string s1.data.toList), []) := by simp [DataW.trod, Tryd.underlying9, w1]
  have t2 := trod_int_mk (enc := enc) (w := w') (base := base') (spare := sp') (held := held') 1 Tryd.underlying3 w2
  have t3 := trod_int_mk (enc := enc) (w := w') (base := base') (spare := sp') (held := held') 1 Tryd.underlying3 w3
  have t4 := trod_int_mk (enc := enc) (w := w') (base := base') (spare := sp') (held := held') 1 Tryd.underlying3 w4
  have t5 : DataW.trod enc Tryd.prog w' base' sp' held' 2 4 [.bool b5] = some (.lit (.bool b5), []) := by simp [DataW.trod, Tryd.underlying4]
  simp only [List.mapM_cons, List.mapM_nil, Value.cells, c9, c3', c4', List.drop, List.take, t0, t1, t2, t3, t4, t5]
  rfl
end

theorem contract (H : Type) (enc : TypeId × Value → H) (W : World) (base : Nat) (args : Array Value) (ds gs : List (DataW H)) (before : List MemPlace)
    (hval : ∀ (j : Nat) t v, Tryd.f3.params[j]? = some t → args[j]? = some v → Value.okWide Tryd.prog W .any base t v)
    (hW : DataW.Whole enc Tryd.prog Tryd.f3.params.toList Rows.clerkDueSpec.vars false W args.toList ds gs before)
    (hz : (DataW.weightsEach Tryd.prog (Tryd.f3.params.toList ++ Rows.clerkDueSpec.plain.varTypes Tryd.prog) (ds ++ gs)).all (· ≤ reachBytes) = true)
    (hL : laidMet Tryd.prog Rows.clerkDueRow.laid W) (hsh : W.ShapedOpen Tryd.prog) :
    Calls Tryd.prog 3 args W fun e W' => ∃ v, e = .returned v ∧ Rows.clerkDueSpec.post enc Tryd.prog Tryd.f3 false true false false W args v W' := by
  have hW' := hW
  obtain ⟨p, q, hA0, hV, rfl, hfz, hnd⟩ := hW
  have hA : DataW.TrodAll enc Tryd.prog W 0 (fun _ => true) true Tryd.f3.params.toList args.toList ds p := hA0
  rw [Tryd.params3] at hA hval hz
  obtain ⟨v0, v1, v2, d0, d1, d2, p0, p1, p2, rfl, rfl, rfl, h0, h1, h2⟩ := trodAll_three hA
  obtain ⟨rfl, rfl⟩ := trodVars_none hV
  obtain ⟨j, rfl, rfl, rfl, back⟩ := open_job (hval 0 23 v0 rfl rfl) h0
  obtain ⟨last, rfl, rfl, rfl, wl⟩ := open_int Tryd.underlying3 (hval 1 3 v1 rfl rfl) h1
  obtain ⟨now, rfl, rfl, rfl, wn⟩ := open_int Tryd.underlying3 (hval 2 3 v2 rfl rfl) h2
  have hz1 : j.name.size ≤ reachBytes := by
    have := List.all_eq_true.1 hz _ (DataW.weights_mem_each (j := 0) rfl rfl j.name.data.toList.length (by simp [DataW.weights, DataW.weightsEach, Tryd.underlying23]))
    simpa using this
  have hz2 : j.cron.size ≤ reachBytes := by
    have := List.all_eq_true.1 hz _ (DataW.weights_mem_each (j := 0) rfl rfl j.cron.data.toList.length (by simp [DataW.weights, DataW.weightsEach, Tryd.underlying23]))
    simpa using this
  have hr := reachBytes_lt
  clear hA0
  simp only [List.append_nil] at hW'
  have m1 : IntKind.i64.min = -9223372036854775808 := rfl
  have m2 : IntKind.i64.max = 9223372036854775807 := rfl
  have bl : -9223372036854775808 ≤ last ∧ last ≤ 9223372036854775807 := by simpa [Lit.wf, m1, m2] using wl
  have bn : -9223372036854775808 ≤ now ∧ now ≤ 9223372036854775807 := by simpa [Lit.wf, m1, m2] using wn
  refine (law_any j last now W (by omega) bl.1 bl.2 bn.1 bn.2 (glob hL hsh)).mono fun e W' ⟨he, bel⟩ => ?_
  subst he
  exact ⟨_, rfl, _, _, _, [], [], [], hW', trodAll_mk1 (shut_bool Tryd.underlying4 _), trodAll_mk3 (back _ _ _ _) (shut_int Tryd.underlying3 wl) (shut_int Tryd.underlying3 wn), rfl, bel.frame _, fun h => by cases h⟩

/-- a job of nothing -/
def args0 : Array Value := #[.agg #[.string ⟨#[]⟩, .string ⟨#[]⟩, .int .i64 0, .int .i64 0, .int .i64 0, .bool false], .int .i64 0, .int .i64 0]
noncomputable def laidWorld (os : Os) : World :=
  let w0 := World.holding Tryd.prog os ⟨#[], #[], []⟩
  let put (h : Array Obj) (g : Nat) (cs : Array Value) : Array Obj := h.modify g fun
    | .cells _ t frozen => .cells cs t frozen
    | o => o
  { w0 with heap := put (put (put w0.heap 0 (Lib.firstTab.map fun z => Value.int .u8 z).toArray) 1 ((List.range 16).flatMap fun i => [Value.int .u8 (Lib.accLo i), Value.int .u8 (Lib.accHi i)]).toArray) 2 (tabZ.map fun z => Value.int .u8 z).toArray }
theorem laid_met (os : Os) : laidMet Tryd.prog Rows.clerkDueRow.laid ((laidWorld os).forCall (fun _ _ => 0) ⟨#[], args0, []⟩).memory :=
  laidMet_of_run' 8 (by kernel_rfl) (by kernel_rfl)
theorem reads (os : Os) {H : Type} (enc : TypeId × Value → H) : ∃ places, DataW.whole enc Tryd.prog ((laidWorld os).forCall (fun _ _ => 0) ⟨#[], args0, []⟩).memory Tryd.f3.params.toList Rows.clerkDueSpec.vars false args0.toList 8 = some ([.agg [.lit (.string []), .lit (.string []), .lit (.int .i64 0), .lit (.int .i64 0), .lit (.int .i64 0), .lit (.bool false)], .lit (.int .i64 0), .lit (.int .i64 0)], [], places) :=
  ⟨[], by kernel_rfl⟩

set_option maxRecDepth 100000 in
theorem lifted (os : Os) (started : os.Started) (H : Type) (enc : TypeId × Value → H) (F : Stop.Interp) :
    ReturnsInHanded {} Tryd.checked os 3 .any ((OpenSpec.ofChange Rows.clerkDueSpec).preRow enc Tryd.prog Tryd.f3 Rows.clerkDueRow.domain false Rows.clerkDueRow.laid) (((OpenSpec.ofChange Rows.clerkDueSpec).at F).post enc Tryd.prog Tryd.f3 false true false false) := by
  obtain ⟨places, hx⟩ := reads os enc
  refine returnsInHanded_of_row (C := Tryd.checked) (s := OpenSpec.ofChange Rows.clerkDueSpec) own started (by kernel_rfl) Tryd.func3
    (witness_row_at (enc := enc) (C := Tryd.checked) false (laidWorld os) args0 rfl (by kernel_rfl) (by kernel_rfl) (by kernel_rfl)
      (OpenSpec.preRow_of_cond 8 hx (by kernel_rfl) (fun k hk => by cases hk) (by kernel_rfl) (laid_met os))) ?_
  intro W base args ds gs before hval hW _ _ hz hL hsh _
  exact contract H enc W base args ds gs before hval hW hz hL hsh

theorem said : Rows.ClerkDueSaid :=
  OpenClaim.holds_of_cond 3 Tryd.f3 rfl rfl rfl rfl rfl rfl rfl ⟨rfl, rfl, rfl, rfl, rfl⟩ rfl rfl rfl rfl rfl (by kernel_rfl) Tryd.func3 (by kernel_rfl)
    (of_decide_eq_true (by kernel_rfl)) (by unfold Func.isWrapper; first | (rw [if_pos (by decide +kernel)]; kernel_rfl) | (rw [if_neg (by decide +kernel)]; exact ⟨rfl, rfl⟩))
    (fun os started H enc _ F => by rw [OpenClaim.pre_eq_preRow]; exact lifted os started H enc F)

/-- No parameter wants a stand-in; the program's own looks are off: what the card asks. -/
theorem plain (f : FuncId) (fn : Func) (hf : Tryd.pinned.checked.prog.funcNamed "horologe/horologelaw19.ClerkDue" = some f) (hfn : Tryd.pinned.checked.prog.funcs[f]? = some fn) :
    false = Tryd.pinned.checked.prog.looks [] ∧ ∀ (j : Nat) t, fn.params[j]? = some t → Tryd.pinned.checked.prog.wantsStandIn t = false := by
  obtain rfl : f = 3 := Option.some.inj ((show Tryd.prog.funcNamed "horologe/horologelaw19.ClerkDue" = some 3 by kernel_rfl).symm.trans hf) |>.symm
  obtain rfl : fn = Tryd.f3 := (Option.some.inj (Tryd.func3.symm.trans hfn)).symm
  refine ⟨by kernel_rfl, fun j t ht => ?_⟩
  rw [Tryd.params3] at ht
  have hm : t = 23 ∨ t = 3 := by simpa using Array.mem_of_getElem? ht
  rcases hm with rfl | rfl
  · exact (show Tryd.prog.wantsStandIn 23 = false by kernel_rfl)
  · exact (show Tryd.prog.wantsStandIn 3 = false by kernel_rfl)

theorem card : Rows.ClerkDueCardSaid :=
  Claim7.holds_tied_plain_at .later [] _ _ _ _ said (fun _ h => by cases h) (by kernel_rfl) (fun _ h => by cases h) clerkDue_row_tie rfl ⟨rfl, rfl⟩ (by kernel_rfl) rfl plain (by kernel_rfl)

end Go.Proofs.YtdmchgmcbnjelaaDoor.closing
