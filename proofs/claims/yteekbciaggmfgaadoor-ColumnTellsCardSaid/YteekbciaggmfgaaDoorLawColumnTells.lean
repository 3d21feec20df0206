/- ColumnTells: the tied card, out of its ideal run: for every input the law returns true, and the arguments read as before. No condition, but that the table math/bits.deBruijn64tab is as the program lays it, which the card ties to its text. -/
import Derived.Test.YteekbciaggmfgaaDoorRows
import Derived.Test.YteekbciaggmfgaaDoorCards
import Derived.Test.YteekbciaggmfgaaDoorTie
import Derived.Test.YteekbciaggmfgaaDoorFrameA
import Derived.Test.YteekbciaggmfgaaDoorNumF
import Derived.Test.YteekbciaggmfgaaDoorLaid
import Derived.WalkKit
import Derived.ProofKit
import Derived.OpenShut
import Derived.ChangeOld
import Derived.Below
import Derived.SizedLaws
import Derived.LaidMore
import Derived.Stop.Joined
import Derived.SevenTiedAt
namespace Go.Proofs.YteekbciaggmfgaaDoor.columnTells
open Go.ChangeShapes Go.WideShapes Go.ChangeAt Go.RowKit
set_option linter.unusedVariables false
theorem own : ownKnob Tryd.prog.godebug = none := by kernel_rfl
theorem laidOut : laidOutB Tryd.prog = true := by kernel_rfl
theorem ty_0 : tyOf Tryd.prog 20 25 = some tyC := by kernel_rfl
theorem ty_1 : tyOf Tryd.prog 20 3 = some (.int .i64) := by kernel_rfl
theorem ty_2 : tyOf Tryd.prog 20 3 = some (.int .i64) := by kernel_rfl
theorem ty_3 : tyOf Tryd.prog 20 3 = some (.int .i64) := by kernel_rfl
theorem plain (d0 d1 d2 d3 : DV) (h0 : HasTy tyC d0) (h1 : HasTy (.int .i64) d1) (h2 : HasTy (.int .i64) d2) (h3 : HasTy (.int .i64) d3) : ∃ h', E X 3 [d0, d1, d2, d3] [] = some (.bool true, h') := by
 obtain ⟨c0, rfl, hv0⟩ := argC h0
 obtain ⟨n1, rfl, w1⟩ := argI h1
 obtain ⟨n2, rfl, w2⟩ := argI h2
 obtain ⟨n3, rfl, w3⟩ := argI h3
 exact ⟨_, run3 hv0.1 hv0.2 n1 n2 n3⟩
theorem door_met (os : Os) (args : Array Value) : laidMetH Tryd.prog Rows.columnTellsRow.laid ((World.doorLaid Tryd.prog 400 os).forCall (fun _ _ => 0) ⟨#[], args, []⟩).memory :=
 laidMetH_of_parts3 (fuel := 8) (laidMet_of_run' 8 (by kernel_rfl) (by kernel_rfl)) (by kernel_rfl) (by kernel_rfl)
set_option maxRecDepth 100000 in
theorem lifted (os : Os) (started : os.Started) (H : Type) (enc : TypeId × Value → H) :
 ReturnsInHanded {} Tryd.checked os 3 .any (fun w args => (Rows.columnTellsSpec.pre enc Tryd.prog Tryd.f3 [] false w args ∧ laidMetH Tryd.prog Rows.columnTellsRow.laid w) ∧ sizedMet enc Tryd.prog Tryd.f3 (OpenSpec.ofChange Rows.columnTellsSpec) false w args) (Rows.columnTellsSpec.post enc Tryd.prog Tryd.f3 false true false false) := by
 refine returnsInHanded_of_change_and (C := Tryd.checked) (X := fun w _ => laidMetH Tryd.prog Rows.columnTellsRow.laid w) (fun _ _ _ hh h => h.of_heap hh) own started (by kernel_rfl) Tryd.func3
  (ChangeSpec.witness_shaped (enc := enc) (C := Tryd.checked) (os := os) (X := fun w _ => laidMetH Tryd.prog Rows.columnTellsRow.laid w) false (World.doorLaid Tryd.prog 400 os) #[.agg #[.int .i64 0, .slice none 0 0, .slice none 0 0], .int .i64 0, .int .i64 0, .int .i64 0] 8 rfl (World.shaped_of_RefB (by kernel_rfl) (by kernel_rfl)) (by kernel_rfl) (by kernel_rfl) (by kernel_rfl) (door_met os _)) ?_
 intro W base args ds gs before hval0 hW hcnd hsz0 hL _
 have hsz : (DataW.weightsEach Tryd.prog (Tryd.f3.params.toList ++ Rows.columnTellsSpec.plain.varTypes Tryd.prog) (ds ++ gs)).all (· ≤ reachBytes) = true := hsz0
 have hval : ∀ (j : Nat) t v, Tryd.f3.params[j]? = some t → args[j]? = some v → Value.okWide Tryd.prog W .any base t v := hval0
 have hW' := hW
 obtain ⟨p, q, hA0, hV, rfl, hfz, hnd⟩ := hW
 have hA : DataW.TrodAll enc Tryd.prog W 0 (fun _ => true) true Tryd.f3.params.toList args.toList ds p := hA0
 rw [Tryd.params3] at hA hval hsz
 obtain ⟨v0, vs0, d0, ds0, p0, q0, hargs, rfl, rfl, h0, r0⟩ := trodAll_cons hA
 obtain ⟨v1, vs1, d1, ds1, p1, q1, rfl, rfl, rfl, h1, r1⟩ := trodAll_cons r0
 obtain ⟨v2, vs2, d2, ds2, p2, q2, rfl, rfl, rfl, h2, r2⟩ := trodAll_cons r1
 obtain ⟨v3, vs3, d3, ds3, p3, q3, rfl, rfl, rfl, h3, r3⟩ := trodAll_cons r2
 obtain ⟨rfl, rfl, rfl⟩ := trodAll_nil r3
 obtain rfl : args = #[v0, v1, v2, v3] := by cases args; simp_all
 obtain ⟨rfl, rfl⟩ := trodVars_none hV
 have hw : ∀ m ∈ DataW.weights Tryd.prog 25 d0 ++ DataW.weights Tryd.prog 3 d1 ++ DataW.weights Tryd.prog 3 d2 ++ DataW.weights Tryd.prog 3 d3, m ≤ reachBytes := by
  intro m hm
  refine of_decide_eq_true (List.all_eq_true.1 hsz m ?_)
  simpa [DataW.weightsEach] using hm
 have lt0 : ∀ x ∈ p0, x.block < W.heap.size := by obtain ⟨m, hm⟩ := h0; exact DataW.trod_lt m _ _ _ hm
 have lt1 : ∀ x ∈ p1, x.block < W.heap.size := by obtain ⟨m, hm⟩ := h1; exact DataW.trod_lt m _ _ _ hm
 have lt2 : ∀ x ∈ p2, x.block < W.heap.size := by obtain ⟨m, hm⟩ := h2; exact DataW.trod_lt m _ _ _ hm
 have lt3 : ∀ x ∈ p3, x.block < W.heap.size := by obtain ⟨m, hm⟩ := h3; exact DataW.trod_lt m _ _ _ hm
 obtain ⟨e0, a0, _, b0⟩ := arg_in ty_0 (hval 0 25 v0 rfl rfl) h0 (fun m hm => hw m (by simp [hm]))
 obtain ⟨e1, a1, _, b1⟩ := arg_in ty_1 (hval 1 3 v1 rfl rfl) h1 (fun m hm => hw m (by simp [hm]))
 obtain ⟨e2, a2, _, b2⟩ := arg_in ty_2 (hval 2 3 v2 rfl rfl) h2 (fun m hm => hw m (by simp [hm]))
 obtain ⟨e3, a3, _, b3⟩ := arg_in ty_3 (hval 3 3 v3 rfl rfl) h3 (fun m hm => hw m (by simp [hm]))
 obtain ⟨hEnd, hE⟩ := plain e0 e1 e2 e3 a0 a1 a2 a3
 clear hA0 hval0 hsz0 hsz
 refine (law_calls sound (tabs_db hL) hE (.cons b0 (.cons b1 (.cons b2 (.cons b3 .nil))))).mono fun e W' ⟨he, bel⟩ => ?_
 subst he
 exact ⟨_, rfl, _, _, _, [], _, [], hW', trodAll_mk1 (shut_bool Tryd.underlying4 _), (trodAll_cons_mk (Below.trod laidOut (by kernel_rfl) (of_decide_eq_true (by kernel_rfl)) h0 bel lt0) (trodAll_cons_mk (Below.trod laidOut (by kernel_rfl) (of_decide_eq_true (by kernel_rfl)) h1 bel lt1) (trodAll_cons_mk (Below.trod laidOut (by kernel_rfl) (of_decide_eq_true (by kernel_rfl)) h2 bel lt2) (trodAll_cons_mk (Below.trod laidOut (by kernel_rfl) (of_decide_eq_true (by kernel_rfl)) h3 bel lt3) trodAll_mk0)))), rfl, bel.frame _, fun h => by cases h⟩
theorem over : Rows.columnTellsRow.holds Tryd.pinned (OpenSpec.ofChange Rows.columnTellsSpec) :=
 OpenClaim.holds_of_wide 3 Tryd.f3 rfl rfl rfl rfl rfl rfl rfl ⟨rfl, rfl, rfl, rfl, rfl⟩ rfl rfl rfl rfl rfl (by kernel_rfl) Tryd.func3 (by kernel_rfl)
  (of_decide_eq_true (by kernel_rfl)) (by unfold Func.isWrapper; first | (rw [if_pos (by decide +kernel)]; kernel_rfl) | (rw [if_neg (by decide +kernel)]; exact ⟨rfl, rfl⟩))
  (fun os started H enc _ => lifted os started H enc)
theorem proved : Rows.ColumnTellsCardSaid :=
 Claim7.holds_tied_plain_at .later [] [.data] true Rows.columnTellsCard.stood.harness false
  over (fun _ h => by cases h) (by kernel_rfl) (fun _ h => by cases h) columnTells_row_tie rfl ⟨rfl, rfl⟩ (by kernel_rfl) rfl
  (fun f fn hf hfn => by
   obtain rfl : f = 3 := Option.some.inj ((show Tryd.prog.funcNamed "winnower/winnowerlaw10.ColumnTells" = some 3 by kernel_rfl).symm.trans hf) |>.symm
   obtain rfl : fn = Tryd.f3 := (Option.some.inj (Tryd.func3.symm.trans hfn)).symm
   exact ⟨by kernel_rfl, fun j t ht => by
    rw [Tryd.params3] at ht
    have hm : t ∈ [25, 3, 3, 3] := by simpa using Array.mem_of_getElem? ht
    have hall : ([25, 3, 3, 3].all fun u => !Tryd.prog.wantsStandIn u) = true := by kernel_rfl
    exact (show Tryd.prog.wantsStandIn t = false by simpa using List.all_eq_true.1 hall t hm)⟩)
  (by kernel_rfl)
end Go.Proofs.YteekbciaggmfgaaDoor.columnTells
