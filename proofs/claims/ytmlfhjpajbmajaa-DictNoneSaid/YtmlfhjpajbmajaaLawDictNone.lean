/- DictNone: the row, out of its ideal run. -/
import Derived.Test.YtmlfhjpajbmajaaRows
import Derived.Test.YtmlfhjpajbmajaaFrameB
import Derived.Test.YtmlfhjpajbmajaaPlainL
import Derived.WalkKit
import Derived.ProofKit
import Derived.OpenShut
import Derived.ChangeOld
import Derived.Below
import Derived.SizedLaws
namespace Go.Proofs.Ytmlfhjpajbmajaa.dictNone
open Go.ChangeShapes Go.WideShapes Go.ChangeAt Go.RowKit
set_option linter.unusedVariables false
theorem own : ownKnob Try.prog.godebug = none := by kernel_rfl
theorem laidOut : laidOutB Try.prog = true := by kernel_rfl
def tyV : Ty := .st [.int .i64, .int .i64, .str, .bool]
theorem ty24 : tyOf Try.prog 20 24 = some tyV := by kernel_rfl
theorem ty3 : tyOf Try.prog 20 3 = some (.int .i64) := by kernel_rfl
theorem plain (d0 d1 : DV) (h0 : HasTy tyV d0) (h1 : HasTy (.int .i64) d1) : ∃ h', E X 4 [d0, d1] [] = some (.bool true, h') := by
  unfold tyV HasTy at h0
  obtain ⟨cs, rfl, h0⟩ := h0
  unfold HasTys at h0
  obtain ⟨a, l, rfl, ha, h0⟩ := h0
  unfold HasTys at h0
  obtain ⟨b, l, rfl, hb, h0⟩ := h0
  unfold HasTys at h0
  obtain ⟨c, l, rfl, hc, h0⟩ := h0
  unfold HasTys at h0
  obtain ⟨d, l, rfl, hd, h0⟩ := h0
  unfold HasTys at h0
  subst h0
  unfold HasTy at ha hb hc hd h1
  obtain ⟨k, rfl, _⟩ := ha
  obtain ⟨n, rfl, _⟩ := hb
  obtain ⟨s, rfl, _⟩ := hc
  obtain ⟨t, rfl⟩ := hd
  obtain ⟨i, rfl, _⟩ := h1
  exact ⟨[], run4 ⟨k, n, s, t⟩ i []⟩
set_option maxRecDepth 100000 in
theorem lifted (os : Os) (started : os.Started) (H : Type) (enc : TypeId × Value → H) :
    ReturnsInHanded {} Try.checked os 4 .any (Rows.dictNoneSpec.pre6 enc Try.prog Try.f4 Rows.dictNoneRow.domain false) (Rows.dictNoneSpec.post enc Try.prog Try.f4 false true false false) := by
  refine returnsInHanded_of_change_sized (C := Try.checked) own started (by kernel_rfl) Try.func4
    (ChangeSpec.witness6 (enc := enc) (C := Try.checked) false ⟨#[], #[.agg #[.int .i64 0, .int .i64 0, .string ByteArray.empty, .bool false], .int .i64 0], []⟩ 8 (by kernel_rfl) (by kernel_rfl) (by kernel_rfl) (by kernel_rfl)) ?_
  intro W base args ds gs before hval0 hW hcnd hsz0 _
  have hsz : (DataW.weightsEach Try.prog (Try.f4.params.toList ++ Rows.dictNoneSpec.plain.varTypes Try.prog) (ds ++ gs)).all (· ≤ reachBytes) = true := hsz0
  have hval : ∀ (j : Nat) t v, Try.f4.params[j]? = some t → args[j]? = some v → Value.okWide Try.prog W .any base t v := hval0
  have hW' := hW
  obtain ⟨p, q, hA0, hV, rfl, hfz, hnd⟩ := hW
  have hA : DataW.TrodAll enc Try.prog W 0 (fun _ => true) true Try.f4.params.toList args.toList ds p := hA0
  rw [Try.params4] at hA hval hsz
  obtain ⟨v0, vs0, d0, ds0, p0, q0, hargs, rfl, rfl, h0, r0⟩ := trodAll_cons hA
  obtain ⟨v1, vs1, d1, ds1, p1, q1, rfl, rfl, rfl, h1, r1⟩ := trodAll_cons r0
  obtain ⟨rfl, rfl, rfl⟩ := trodAll_nil r1
  obtain rfl : args = #[v0, v1] := by cases args; simp_all
  obtain ⟨rfl, rfl⟩ := trodVars_none hV
  have hw : ∀ m ∈ DataW.weights Try.prog 24 d0 ++ DataW.weights Try.prog 3 d1, m ≤ reachBytes := by
    intro m hm
    refine of_decide_eq_true (List.all_eq_true.1 hsz m ?_)
    simpa [DataW.weightsEach] using hm
  have lt0 : ∀ x ∈ p0, x.block < W.heap.size := by obtain ⟨m, hm⟩ := h0; exact DataW.trod_lt m _ _ _ hm
  have lt1 : ∀ x ∈ p1, x.block < W.heap.size := by obtain ⟨m, hm⟩ := h1; exact DataW.trod_lt m _ _ _ hm
  obtain ⟨e0, a0, _, b0⟩ := arg_in ty24 (hval 0 24 v0 rfl rfl) h0 (fun m hm => hw m (by simp [hm]))
  obtain ⟨e1, a1, _, b1⟩ := arg_in ty3 (hval 1 3 v1 rfl rfl) h1 (fun m hm => hw m (by simp [hm]))
  obtain ⟨hEnd, hE⟩ := plain e0 e1 a0 a1
  clear hA0 hval0 hsz0 hsz
  refine (law_calls sound hE (.cons b0 (.cons b1 .nil))).mono fun e W' ⟨he, bel⟩ => ?_
  subst he
  exact ⟨_, rfl, _, _, _, [], _, [], hW', trodAll_mk1 (shut_bool Try.underlying4 _), (trodAll_cons_mk (Below.trod laidOut (by kernel_rfl) (of_decide_eq_true (by kernel_rfl)) h0 bel lt0) (trodAll_cons_mk (Below.trod laidOut (by kernel_rfl) (of_decide_eq_true (by kernel_rfl)) h1 bel lt1) trodAll_mk0)), rfl, bel.frame _, fun h => by cases h⟩
theorem over : Rows.dictNoneRow.holds Try.pinned (OpenSpec.ofChange Rows.dictNoneSpec) :=
  OpenClaim.holds_of_wide 4 Try.f4 rfl rfl rfl rfl rfl rfl rfl ⟨rfl, rfl, rfl, rfl, rfl⟩ rfl rfl rfl rfl rfl (by kernel_rfl) Try.func4 (by kernel_rfl)
    (of_decide_eq_true (by kernel_rfl)) (by unfold Func.isWrapper; first | (rw [if_pos (by decide +kernel)]; kernel_rfl) | (rw [if_neg (by decide +kernel)]; exact ⟨rfl, rfl⟩))
    (fun os started H enc _ => lifted os started H enc)
theorem proved : Rows.DictNoneSaid := over
end Go.Proofs.Ytmlfhjpajbmajaa.dictNone
