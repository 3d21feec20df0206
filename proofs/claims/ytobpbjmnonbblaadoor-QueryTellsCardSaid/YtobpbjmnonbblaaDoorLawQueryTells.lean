/- QueryTells: the tied card, out of its ideal run: for every input the law returns true, and the arguments read as before. No condition, but that the table math/bits.deBruijn64tab is as the program lays it, which the card ties to its text. -/
import Derived.Test.YtobpbjmnonbblaaDoorRows
import Derived.Test.YtobpbjmnonbblaaDoorCards
import Derived.Test.YtobpbjmnonbblaaDoorTie
import Derived.Test.YtobpbjmnonbblaaDoorFrameA
import Derived.Test.YtobpbjmnonbblaaDoorQryX
import Derived.Test.YtobpbjmnonbblaaDoorLawArgs
import Derived.WalkKit
import Derived.ProofKit
import Derived.OpenShut
import Derived.ChangeOld
import Derived.Below
import Derived.SizedLaws
import Derived.LaidMore
import Derived.Lay
import Derived.Stop.Joined
import Derived.SevenTiedAt
namespace Go.Proofs.YtobpbjmnonbblaaDoor.queryTells
open Go.ChangeShapes Go.WideShapes Go.ChangeAt Go.RowKit
set_option linter.unusedVariables false
theorem own : ownKnob Tryd.prog.godebug = none := by kernel_rfl
theorem laidOut : laidOutB Tryd.prog = true := by kernel_rfl
theorem ty_0 : tyOf Tryd.prog 20 24 = some tyS := by kernel_rfl
theorem ty_1 : tyOf Tryd.prog 20 30 = some tyQ := by kernel_rfl
theorem plain (d0 d1 : DV) (h0 : HasTy tyS d0) (h1 : HasTy tyQ d1) : ∃ h', E X 5 [d0, d1] [] = some (.bool true, h') := by
  obtain ⟨C0, s0, rfl, hv0, o0⟩ := argS h0
  obtain ⟨F1, Cn1, Gr1, Ag1, So1, q1, rfl, hq1⟩ := argQ h1
  exact ⟨_, run5 (hq1 C0 s0 hv0 o0)⟩
/-- A heap into which what the row lists is laid meets the condition. -/
theorem door_met (os : Os) (args : Array Value) : laidMetH Tryd.prog Rows.queryTellsRow.laid ((World.laidAll Tryd.prog os Rows.queryTellsRow.laid).forCall (fun _ _ => 0) ⟨#[], args, []⟩).memory := by
  rw [MakeChecks.laidMetH_plain _ _ _ (by kernel_rfl)]
  exact laidMet_laidAll _ (by kernel_rfl) (by kernel_rfl)
set_option maxRecDepth 100000 in
theorem lifted (os : Os) (started : os.Started) (H : Type) (enc : TypeId × Value → H) :
    ReturnsInHanded {} Tryd.checked os 5 .any (fun w args => (Rows.queryTellsSpec.pre enc Tryd.prog Tryd.f5 [] false w args ∧ laidMetH Tryd.prog Rows.queryTellsRow.laid w) ∧ sizedMet enc Tryd.prog Tryd.f5 (OpenSpec.ofChange Rows.queryTellsSpec) false w args) (Rows.queryTellsSpec.post enc Tryd.prog Tryd.f5 false true false false) := by
  refine returnsInHanded_of_change_and (C := Tryd.checked) (X := fun w _ => laidMetH Tryd.prog Rows.queryTellsRow.laid w) (fun _ _ _ hh h => h.of_heap hh) own started (by kernel_rfl) Tryd.func5
    (ChangeSpec.witness_shaped (enc := enc) (C := Tryd.checked) (os := os) (X := fun w _ => laidMetH Tryd.prog Rows.queryTellsRow.laid w) false (World.laidAll Tryd.prog os Rows.queryTellsRow.laid) #[.agg #[.slice none 0 0, .int .i64 0, .int .i64 0, .int .i64 0, .int .i64 0], .agg #[.slice none 0 0, .slice none 0 0, .slice none 0 0, .slice none 0 0, .slice none 0 0, .int .i64 0]] 8 rfl (World.shaped_of_ZipB (by kernel_rfl) (by kernel_rfl)) (by kernel_rfl) (by kernel_rfl) (by kernel_rfl) (door_met os _)) ?_
  intro W base args ds gs before hval0 hW hcnd hsz0 hL _
  have hsz : (DataW.weightsEach Tryd.prog (Tryd.f5.params.toList ++ Rows.queryTellsSpec.plain.varTypes Tryd.prog) (ds ++ gs)).all (· ≤ reachBytes) = true := hsz0
  have hval : ∀ (j : Nat) t v, Tryd.f5.params[j]? = some t → args[j]? = some v → Value.okWide Tryd.prog W .any base t v := hval0
  have hW' := hW
  obtain ⟨p, q, hA0, hV, rfl, hfz, hnd⟩ := hW
  have hA : DataW.TrodAll enc Tryd.prog W 0 (fun _ => true) true Tryd.f5.params.toList args.toList ds p := hA0
  rw [Tryd.params5] at hA hval hsz
  obtain ⟨v0, vs0, d0, ds0, p0, q0, hargs, rfl, rfl, h0, r0⟩ := trodAll_cons hA
  obtain ⟨v1, vs1, d1, ds1, p1, q1, rfl, rfl, rfl, h1, r1⟩ := trodAll_cons r0
  obtain ⟨rfl, rfl, rfl⟩ := trodAll_nil r1
  obtain rfl : args = #[v0, v1] := by cases args; simp_all
  obtain ⟨rfl, rfl⟩ := trodVars_none hV
  have hw : ∀ m ∈ DataW.weights Tryd.prog 24 d0 ++ DataW.weights Tryd.prog 30 d1, m ≤ reachBytes := by
    intro m hm
    refine of_decide_eq_true (List.all_eq_true.1 hsz m ?_)
    simpa [DataW.weightsEach] using hm
  have lt0 : ∀ x ∈ p0, x.block < W.heap.size := by obtain ⟨m, hm⟩ := h0; exact DataW.trod_lt m _ _ _ hm
  have lt1 : ∀ x ∈ p1, x.block < W.heap.size := by obtain ⟨m, hm⟩ := h1; exact DataW.trod_lt m _ _ _ hm
  obtain ⟨e0, a0, _, b0⟩ := arg_in ty_0 (hval 0 24 v0 rfl rfl) h0 (fun m hm => hw m (by simp [hm]))
  obtain ⟨e1, a1, _, b1⟩ := arg_in ty_1 (hval 1 30 v1 rfl rfl) h1 (fun m hm => hw m (by simp [hm]))
  obtain ⟨hEnd, hE⟩ := plain e0 e1 a0 a1
  clear hA0 hval0 hsz0 hsz
  refine (law_calls sound (tabs_db hL) hE (.cons b0 (.cons b1 .nil))).mono fun e W' ⟨he, bel⟩ => ?_
  subst he
  exact ⟨_, rfl, _, _, _, [], _, [], hW', trodAll_mk1 (shut_bool Tryd.underlying4 _), (trodAll_cons_mk (Below.trod laidOut (by kernel_rfl) (of_decide_eq_true (by kernel_rfl)) h0 bel lt0) (trodAll_cons_mk (Below.trod laidOut (by kernel_rfl) (of_decide_eq_true (by kernel_rfl)) h1 bel lt1) trodAll_mk0)), rfl, bel.frame _, fun h => by cases h⟩
theorem over : Rows.queryTellsRow.holds Tryd.pinned (OpenSpec.ofChange Rows.queryTellsSpec) :=
  OpenClaim.holds_of_wide 5 Tryd.f5 rfl rfl rfl rfl rfl rfl rfl ⟨rfl, rfl, rfl, rfl, rfl⟩ rfl rfl rfl rfl rfl (by kernel_rfl) Tryd.func5 (by kernel_rfl)
    (of_decide_eq_true (by kernel_rfl)) (by unfold Func.isWrapper; first | (rw [if_pos (by decide +kernel)]; kernel_rfl) | (rw [if_neg (by decide +kernel)]; exact ⟨rfl, rfl⟩))
    (fun os started H enc _ => lifted os started H enc)
theorem proved : Rows.QueryTellsCardSaid :=
  Claim7.holds_tied_plain_at .later [] [.data, .pinned] true Rows.queryTellsCard.stood.harness false
    over (fun _ h => by cases h) (by kernel_rfl) (fun _ h => by cases h) queryTells_row_tie rfl ⟨rfl, rfl⟩ (by kernel_rfl) rfl
    (fun f fn hf hfn => by
      obtain rfl : f = 5 := Option.some.inj ((show Tryd.prog.funcNamed "winnower/winnowerlaw16.QueryTells" = some 5 by kernel_rfl).symm.trans hf) |>.symm
      obtain rfl : fn = Tryd.f5 := (Option.some.inj (Tryd.func5.symm.trans hfn)).symm
      exact ⟨by kernel_rfl, fun j t ht => by
        rw [Tryd.params5] at ht
        have hm : t ∈ [24, 30] := by simpa using Array.mem_of_getElem? ht
        have hall : ([24, 30].all fun u => !Tryd.prog.wantsStandIn u) = true := by kernel_rfl
        exact (show Tryd.prog.wantsStandIn t = false by simpa using List.all_eq_true.1 hall t hm)⟩)
    (by kernel_rfl)
end Go.Proofs.YtobpbjmnonbblaaDoor.queryTells
