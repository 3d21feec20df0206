/- SealTells: the tied card, out of its ideal run: for every input the law returns true, and the arguments read as before. No condition, but that the table math/bits.deBruijn64tab is as the program lays it, which the card ties to its text. -/
import Derived.Test.YtmbgfbomgbdjeaaGreatDoorRows
import Derived.Test.YtmbgfbomgbdjeaaGreatDoorCards
import Derived.Test.YtmbgfbomgbdjeaaGreatDoorTie
import Derived.Test.YtmbgfbomgbdjeaaGreatDoorFrameA
import Derived.Test.YtmbgfbomgbdjeaaGreatDoorSoA
import Derived.Test.YtmbgfbomgbdjeaaGreatDoorLawArgs
import Derived.WalkKit
import Derived.ProofKit
import Derived.OpenShut
import Derived.ChangeOld
import Derived.Below
import Derived.SizedLaws
import Derived.LaidMore
import Derived.Lay
import Derived.Stop.Joined
import Derived.SevenTiedAt
namespace Go.Proofs.YtmbgfbomgbdjeaaGreatDoor.sealTells
open Go.ChangeShapes Go.WideShapes Go.ChangeAt Go.RowKit
set_option linter.unusedVariables false
theorem own : ownKnob Tryz.prog.godebug = none := by kernel_rfl
theorem laidOut : laidOutB Tryz.prog = true := by kernel_rfl
theorem ty_0 : tyOf Tryz.prog 20 24 = some tyS := by kernel_rfl
theorem ty_1 : tyOf Tryz.prog 20 28 = some tyG := by kernel_rfl
theorem ty_2 : tyOf Tryz.prog 20 3 = some (.int .i64) := by kernel_rfl
theorem plain (d0 d1 d2 : DV) (h0 : HasTy tyS d0) (h1 : HasTy tyG d1) (h2 : HasTy (.int .i64) d2) : ∃ h', E X 4 [d0, d1, d2] [] = some (.bool true, h') := by
 obtain ⟨C0, s0, rfl, hv0, o0⟩ := argS h0
 obtain ⟨p1, q1, u1, w1, Of1, Cs1, os1, cs1, rfl, hv1, a1, b1⟩ := argG h1
 obtain ⟨n2, rfl, w2⟩ := argI h2
 exact run4 hv0 o0 hv1 a1 b1
theorem door_met (os : Os) (args : Array Value) : laidMetH Tryz.prog Rows.sealTellsRow.laid ((World.laidAll Tryz.prog os Rows.sealTellsRow.laid).forCall (fun _ _ => 0) ⟨#[], args, []⟩).memory := by
 rw [MakeChecks.laidMetH_plain _ _ _ (by kernel_rfl)]
 exact laidMet_laidAll _ (by kernel_rfl) (by kernel_rfl)
set_option maxRecDepth 100000 in
theorem lifted (os : Os) (started : os.Started) (H : Type) (enc : TypeId × Value → H) :
 ReturnsInHanded {} Tryz.checked os 4 .any (fun w args => (Rows.sealTellsSpec.pre enc Tryz.prog Tryz.f4 [] false w args ∧ laidMetH Tryz.prog Rows.sealTellsRow.laid w) ∧ sizedMet enc Tryz.prog Tryz.f4 (OpenSpec.ofChange Rows.sealTellsSpec) false w args) (Rows.sealTellsSpec.post enc Tryz.prog Tryz.f4 false true false false) := by
 refine returnsInHanded_of_change_and (C := Tryz.checked) (X := fun w _ => laidMetH Tryz.prog Rows.sealTellsRow.laid w) (fun _ _ _ hh h => h.of_heap hh) own started (by kernel_rfl) Tryz.func4
  (ChangeSpec.witness_shaped (enc := enc) (C := Tryz.checked) (os := os) (X := fun w _ => laidMetH Tryz.prog Rows.sealTellsRow.laid w) false (World.laidAll Tryz.prog os Rows.sealTellsRow.laid) #[.agg #[.slice none 0 0, .int .i64 0, .int .i64 0, .int .i64 0, .int .i64 0], .agg #[.int .i64 0, .int .i64 0, .int .i64 0, .int .i64 0, .slice none 0 0, .slice none 0 0], .int .i64 0] 8 rfl (World.shaped_of_ZipB (by kernel_rfl) (by kernel_rfl)) (by kernel_rfl) (by kernel_rfl) (by kernel_rfl) (door_met os _)) ?_
 intro W base args ds gs before hval0 hW hcnd hsz0 hL _
 have hsz : (DataW.weightsEach Tryz.prog (Tryz.f4.params.toList ++ Rows.sealTellsSpec.plain.varTypes Tryz.prog) (ds ++ gs)).all (· ≤ reachBytes) = true := hsz0
 have hval : ∀ (j : Nat) t v, Tryz.f4.params[j]? = some t → args[j]? = some v → Value.okWide Tryz.prog W .any base t v := hval0
 have hW' := hW
 obtain ⟨p, q, hA0, hV, rfl, hfz, hnd⟩ := hW
 have hA : DataW.TrodAll enc Tryz.prog W 0 (fun _ => true) true Tryz.f4.params.toList args.toList ds p := hA0
 rw [Tryz.params4] at hA hval hsz
 obtain ⟨v0, vs0, d0, ds0, p0, q0, hargs, rfl, rfl, h0, r0⟩ := trodAll_cons hA
 obtain ⟨v1, vs1, d1, ds1, p1, q1, rfl, rfl, rfl, h1, r1⟩ := trodAll_cons r0
 obtain ⟨v2, vs2, d2, ds2, p2, q2, rfl, rfl, rfl, h2, r2⟩ := trodAll_cons r1
 obtain ⟨rfl, rfl, rfl⟩ := trodAll_nil r2
 obtain rfl : args = #[v0, v1, v2] := by cases args; simp_all
 obtain ⟨rfl, rfl⟩ := trodVars_none hV
 have hw : ∀ m ∈ DataW.weights Tryz.prog 24 d0 ++ DataW.weights Tryz.prog 28 d1 ++ DataW.weights Tryz.prog 3 d2, m ≤ reachBytes := by
  intro m hm
  refine of_decide_eq_true (List.all_eq_true.1 hsz m ?_)
  simpa [DataW.weightsEach] using hm
 have lt0 : ∀ x ∈ p0, x.block < W.heap.size := by obtain ⟨m, hm⟩ := h0; exact DataW.trod_lt m _ _ _ hm
 have lt1 : ∀ x ∈ p1, x.block < W.heap.size := by obtain ⟨m, hm⟩ := h1; exact DataW.trod_lt m _ _ _ hm
 have lt2 : ∀ x ∈ p2, x.block < W.heap.size := by obtain ⟨m, hm⟩ := h2; exact DataW.trod_lt m _ _ _ hm
 obtain ⟨e0, a0, _, b0⟩ := arg_in ty_0 (hval 0 24 v0 rfl rfl) h0 (fun m hm => hw m (by simp [hm]))
 obtain ⟨e1, a1, _, b1⟩ := arg_in ty_1 (hval 1 28 v1 rfl rfl) h1 (fun m hm => hw m (by simp [hm]))
 obtain ⟨e2, a2, _, b2⟩ := arg_in ty_2 (hval 2 3 v2 rfl rfl) h2 (fun m hm => hw m (by simp [hm]))
 obtain ⟨hEnd, hE⟩ := plain e0 e1 e2 a0 a1 a2
 clear hA0 hval0 hsz0 hsz
 refine (law_calls sound (tabs_no hL) hE (.cons b0 (.cons b1 (.cons b2 .nil)))).mono fun e W' ⟨he, bel⟩ => ?_
 subst he
 exact ⟨_, rfl, _, _, _, [], _, [], hW', trodAll_mk1 (shut_bool Tryz.underlying4 _), (trodAll_cons_mk (Below.trod laidOut (by kernel_rfl) (of_decide_eq_true (by kernel_rfl)) h0 bel lt0) (trodAll_cons_mk (Below.trod laidOut (by kernel_rfl) (of_decide_eq_true (by kernel_rfl)) h1 bel lt1) (trodAll_cons_mk (Below.trod laidOut (by kernel_rfl) (of_decide_eq_true (by kernel_rfl)) h2 bel lt2) trodAll_mk0))), rfl, bel.frame _, fun h => by cases h⟩
theorem over : Rows.sealTellsRow.holds Tryz.pinned (OpenSpec.ofChange Rows.sealTellsSpec) :=
 OpenClaim.holds_of_wide 4 Tryz.f4 rfl rfl rfl rfl rfl rfl rfl ⟨rfl, rfl, rfl, rfl, rfl⟩ rfl rfl rfl rfl rfl (by kernel_rfl) Tryz.func4 (by kernel_rfl)
  (of_decide_eq_true (by kernel_rfl)) (by unfold Func.isWrapper; first | (rw [if_pos (by decide +kernel)]; kernel_rfl) | (rw [if_neg (by decide +kernel)]; exact ⟨rfl, rfl⟩))
  (fun os started H enc _ => lifted os started H enc)
theorem proved : Rows.SealTellsCardSaid :=
 Claim7.holds_tied_plain_at .later [] [.data, .pinned] true Rows.sealTellsCard.stood.harness false
  over (fun _ h => by cases h) (by kernel_rfl) (fun _ h => by cases h) sealTells_row_tie rfl ⟨rfl, rfl⟩ (by kernel_rfl) rfl
  (fun f fn hf hfn => by
   obtain rfl : f = 4 := Option.some.inj ((show Tryz.prog.funcNamed "winnower/winnowerlaw12.SealTells" = some 4 by kernel_rfl).symm.trans hf) |>.symm
   obtain rfl : fn = Tryz.f4 := (Option.some.inj (Tryz.func4.symm.trans hfn)).symm
   exact ⟨by kernel_rfl, fun j t ht => by
    rw [Tryz.params4] at ht
    have hm : t ∈ [24, 28, 3] := by simpa using Array.mem_of_getElem? ht
    have hall : ([24, 28, 3].all fun u => !Tryz.prog.wantsStandIn u) = true := by kernel_rfl
    exact (show Tryz.prog.wantsStandIn t = false by simpa using List.all_eq_true.1 hall t hm)⟩)
  (by kernel_rfl)
end Go.Proofs.YtmbgfbomgbdjeaaGreatDoor.sealTells
