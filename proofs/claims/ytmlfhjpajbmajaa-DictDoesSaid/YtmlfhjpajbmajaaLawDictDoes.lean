/- DictDoes: the row, out of its ideal run. -/
import Derived.Test.YtmlfhjpajbmajaaRows
import Derived.Test.YtmlfhjpajbmajaaFrameB
import Derived.Test.YtmlfhjpajbmajaaPlainY
import Derived.Test.YtmlfhjpajbmajaaLawArgs
import Derived.WalkKit
import Derived.ProofKit
import Derived.OpenShut
import Derived.ChangeOld
import Derived.Below
import Derived.SizedLaws
namespace Go.Proofs.Ytmlfhjpajbmajaa.dictDoes
open Go.ChangeShapes Go.WideShapes Go.ChangeAt Go.RowKit
set_option linter.unusedVariables false
theorem own : ownKnob Try.prog.godebug = none := by kernel_rfl
theorem laidOut : laidOutB Try.prog = true := by kernel_rfl
theorem ty_0 : tyOf Try.prog 20 3 = some (.int .i64) := by kernel_rfl
theorem ty_1 : tyOf Try.prog 20 22 = some tyL := by kernel_rfl
theorem ty_2 : tyOf Try.prog 20 24 = some tyV := by kernel_rfl
theorem ty_3 : tyOf Try.prog 20 3 = some (.int .i64) := by kernel_rfl
theorem plain (d0 d1 d2 d3 : DV) (h0 : HasTy (.int .i64) d0) (h1 : HasTy tyL d1) (h2 : HasTy tyV d2) (h3 : HasTy (.int .i64) d3) : ∃ h', E X 3 [d0, d1, d2, d3] [] = some (.bool true, h') := by
  obtain ⟨n0, rfl, w0⟩ := argI h0
  obtain ⟨l1, k1, s1, b1⟩ := argL h1
  obtain ⟨v2, rfl, s2⟩ := argV h2
  obtain ⟨n3, rfl, w3⟩ := argI h3
  exact run3 n0 v2 n3 k1 s1 s2
set_option maxRecDepth 100000 in
theorem lifted (os : Os) (started : os.Started) (H : Type) (enc : TypeId × Value → H) :
    ReturnsInHanded {} Try.checked os 3 .any (Rows.dictDoesSpec.pre6 enc Try.prog Try.f3 Rows.dictDoesRow.domain false) (Rows.dictDoesSpec.post enc Try.prog Try.f3 false true false false) := by
  refine returnsInHanded_of_change_sized (C := Try.checked) own started (by kernel_rfl) Try.func3
    (ChangeSpec.witness6 (enc := enc) (C := Try.checked) false ⟨#[], #[.int .i64 0, .slice none 0 0, .agg #[.int .i64 0, .int .i64 0, .string ByteArray.empty, .bool false], .int .i64 0], []⟩ 8 (by kernel_rfl) (by kernel_rfl) (by kernel_rfl) (by kernel_rfl)) ?_
  intro W base args ds gs before hval0 hW hcnd hsz0 _
  have hsz : (DataW.weightsEach Try.prog (Try.f3.params.toList ++ Rows.dictDoesSpec.plain.varTypes Try.prog) (ds ++ gs)).all (· ≤ reachBytes) = true := hsz0
  have hval : ∀ (j : Nat) t v, Try.f3.params[j]? = some t → args[j]? = some v → Value.okWide Try.prog W .any base t v := hval0
  have hW' := hW
  obtain ⟨p, q, hA0, hV, rfl, hfz, hnd⟩ := hW
  have hA : DataW.TrodAll enc Try.prog W 0 (fun _ => true) true Try.f3.params.toList args.toList ds p := hA0
  rw [Try.params3] at hA hval hsz
  obtain ⟨v0, vs0, d0, ds0, p0, q0, hargs, rfl, rfl, h0, r0⟩ := trodAll_cons hA
  obtain ⟨v1, vs1, d1, ds1, p1, q1, rfl, rfl, rfl, h1, r1⟩ := trodAll_cons r0
  obtain ⟨v2, vs2, d2, ds2, p2, q2, rfl, rfl, rfl, h2, r2⟩ := trodAll_cons r1
  obtain ⟨v3, vs3, d3, ds3, p3, q3, rfl, rfl, rfl, h3, r3⟩ := trodAll_cons r2
  obtain ⟨rfl, rfl, rfl⟩ := trodAll_nil r3
  obtain rfl : args = #[v0, v1, v2, v3] := by cases args; simp_all
  obtain ⟨rfl, rfl⟩ := trodVars_none hV
  have hw : ∀ m ∈ DataW.weights Try.prog 3 d0 ++ DataW.weights Try.prog 22 d1 ++ DataW.weights Try.prog 24 d2 ++ DataW.weights Try.prog 3 d3, m ≤ reachBytes := by
    intro m hm
    refine of_decide_eq_true (List.all_eq_true.1 hsz m ?_)
    simpa [DataW.weightsEach] using hm
  have lt0 : ∀ x ∈ p0, x.block < W.heap.size := by obtain ⟨m, hm⟩ := h0; exact DataW.trod_lt m _ _ _ hm
  have lt1 : ∀ x ∈ p1, x.block < W.heap.size := by obtain ⟨m, hm⟩ := h1; exact DataW.trod_lt m _ _ _ hm
  have lt2 : ∀ x ∈ p2, x.block < W.heap.size := by obtain ⟨m, hm⟩ := h2; exact DataW.trod_lt m _ _ _ hm
  have lt3 : ∀ x ∈ p3, x.block < W.heap.size := by obtain ⟨m, hm⟩ := h3; exact DataW.trod_lt m _ _ _ hm
  obtain ⟨e0, a0, _, b0⟩ := arg_in ty_0 (hval 0 3 v0 rfl rfl) h0 (fun m hm => hw m (by simp [hm]))
  obtain ⟨e1, a1, _, b1⟩ := arg_in ty_1 (hval 1 22 v1 rfl rfl) h1 (fun m hm => hw m (by simp [hm]))
  obtain ⟨e2, a2, _, b2⟩ := arg_in ty_2 (hval 2 24 v2 rfl rfl) h2 (fun m hm => hw m (by simp [hm]))
  obtain ⟨e3, a3, _, b3⟩ := arg_in ty_3 (hval 3 3 v3 rfl rfl) h3 (fun m hm => hw m (by simp [hm]))
  obtain ⟨hEnd, hE⟩ := plain e0 e1 e2 e3 a0 a1 a2 a3
  clear hA0 hval0 hsz0 hsz
  refine (law_calls sound hE (.cons b0 (.cons b1 (.cons b2 (.cons b3 .nil))))).mono fun e W' ⟨he, bel⟩ => ?_
  subst he
  exact ⟨_, rfl, _, _, _, [], _, [], hW', trodAll_mk1 (shut_bool Try.underlying4 _), (trodAll_cons_mk (Below.trod laidOut (by kernel_rfl) (of_decide_eq_true (by kernel_rfl)) h0 bel lt0) (trodAll_cons_mk (Below.trod laidOut (by kernel_rfl) (of_decide_eq_true (by kernel_rfl)) h1 bel lt1) (trodAll_cons_mk (Below.trod laidOut (by kernel_rfl) (of_decide_eq_true (by kernel_rfl)) h2 bel lt2) (trodAll_cons_mk (Below.trod laidOut (by kernel_rfl) (of_decide_eq_true (by kernel_rfl)) h3 bel lt3) trodAll_mk0)))), rfl, bel.frame _, fun h => by cases h⟩
theorem over : Rows.dictDoesRow.holds Try.pinned (OpenSpec.ofChange Rows.dictDoesSpec) :=
  OpenClaim.holds_of_wide 3 Try.f3 rfl rfl rfl rfl rfl rfl rfl ⟨rfl, rfl, rfl, rfl, rfl⟩ rfl rfl rfl rfl rfl (by kernel_rfl) Try.func3 (by kernel_rfl)
    (of_decide_eq_true (by kernel_rfl)) (by unfold Func.isWrapper; first | (rw [if_pos (by decide +kernel)]; kernel_rfl) | (rw [if_neg (by decide +kernel)]; exact ⟨rfl, rfl⟩))
    (fun os started H enc _ => lifted os started H enc)
theorem proved : Rows.DictDoesSaid := over
end Go.Proofs.Ytmlfhjpajbmajaa.dictDoes
