/-
  The law SurgeNeverCross answers true at every input, and its arguments read afterwards as they did before. No condition.
-/
import Derived.Test.YtfjeopaaplnoaaaC6
import Derived.Test.YtfjeopaaplnoaaaAvJn
namespace Go.Proofs.Ytfjeopaaplnoaaa
open Go Go.RowKit Av
set_option maxRecDepth 100000
set_option linter.unusedVariables false

theorem surgeNeverCross_own : ownKnob Try.prog.godebug = none := by kernel_rfl
theorem surgeNeverCross_laidOut : laidOutB Try.prog = true := by kernel_rfl
theorem surgeNeverCross_par : Try.f4.params.toList.all (fun T => parOk Try.prog T (parKs Try.prog T)) = true := by kernel_rfl
theorem surgeNeverCross_k25 : parKs Try.prog 25 = [.f (.int .i64), .f (.int .i64), .f (.int .i64), .f (.int .i64), .f (.int .i64)] := by kernel_rfl
theorem surgeNeverCross_k42 : parKs Try.prog 42 = [.f (.int .i64), .f (.int .i64), .f (.int .i64), .f (.int .i64)] := by kernel_rfl
theorem surgeNeverCross_k29 : parKs Try.prog 29 = [.f (.int .i64), .f (.int .i64)] := by kernel_rfl
theorem surgeNeverCross_g : isAggT Try.prog 25 = true ∧ isAggT Try.prog 42 = true ∧ isAggT Try.prog 29 = true := ⟨by kernel_rfl, by kernel_rfl, by kernel_rfl⟩
theorem surgeNeverCross_all (avs : List AV) (h : ArgsA Try.prog Try.f4.params.toList avs) : DCall Try.prog 4 avs (.sc (.bool true)) := by
  rw [Try.params4] at h
  obtain ⟨r, avs1, rfl, hr, h1⟩ := argsA_cons h
  obtain ⟨s, avs2, rfl, hs, h2⟩ := argsA_cons h1
  obtain ⟨x, avs3, rfl, hx, h3⟩ := argsA_cons h2
  obtain rfl := argsA_nil h3
  rw [surgeNeverCross_k25] at hr
  rw [surgeNeverCross_k42] at hs
  rw [surgeNeverCross_k29] at hx
  rw [surgeNeverCross_g.1, surgeNeverCross_g.2.1, surgeNeverCross_g.2.2]
  obtain ⟨c_, r1, rfl, q_, hr1⟩ := leafAs_cons hr
  obtain ⟨ine, rfl, b_ine⟩ := leafA_int q_
  obtain ⟨c_, r2, rfl, q_, hr2⟩ := leafAs_cons hr1
  obtain ⟨area, rfl, b_area⟩ := leafA_int q_
  obtain ⟨c_, r3, rfl, q_, hr3⟩ := leafAs_cons hr2
  obtain ⟨flo, rfl, b_flo⟩ := leafA_int q_
  obtain ⟨c_, r4, rfl, q_, hr4⟩ := leafAs_cons hr3
  obtain ⟨fhi, rfl, b_fhi⟩ := leafA_int q_
  obtain ⟨c_, r5, rfl, q_, hr5⟩ := leafAs_cons hr4
  obtain ⟨thr, rfl, b_thr⟩ := leafA_int q_
  obtain rfl := leafAs_nil hr5
  obtain ⟨c_, s1, rfl, q_, hs1⟩ := leafAs_cons hs
  obtain ⟨l0, rfl, b_l0⟩ := leafA_int q_
  obtain ⟨c_, s2, rfl, q_, hs2⟩ := leafAs_cons hs1
  obtain ⟨f0, rfl, b_f0⟩ := leafA_int q_
  obtain ⟨c_, s3, rfl, q_, hs3⟩ := leafAs_cons hs2
  obtain ⟨l1, rfl, b_l1⟩ := leafA_int q_
  obtain ⟨c_, s4, rfl, q_, hs4⟩ := leafAs_cons hs3
  obtain ⟨f1, rfl, b_f1⟩ := leafA_int q_
  obtain rfl := leafAs_nil hs4
  obtain ⟨c_, x1, rfl, q_, hx1⟩ := leafAs_cons hx
  obtain ⟨load, rfl, b_load⟩ := leafA_int q_
  obtain ⟨c_, x2, rfl, q_, hx2⟩ := leafAs_cons hx1
  obtain ⟨fr, rfl, b_fr⟩ := leafA_int q_
  obtain rfl := leafAs_nil hx2
  exact c4 ine area flo fhi thr l0 f0 l1 f1 load fr

theorem surgeNeverCross_lifted (os : Os) (started : os.Started) (H : Type) (enc : TypeId × Value → H) :
    ReturnsInHanded {} Try.checked os 4 .any (Rows.surgeNeverCrossSpec.pre6 enc Try.prog Try.f4 Rows.surgeNeverCrossRow.domain false) (Rows.surgeNeverCrossSpec.post enc Try.prog Try.f4 false true false false) := by
  refine returnsInHanded_of_change_sized (C := Try.checked) surgeNeverCross_own started (by kernel_rfl) Try.func4
    (ChangeSpec.witness6 (enc := enc) (C := Try.checked) false ⟨#[], #[.agg #[.int .i64 0, .int .i64 0, .int .i64 0, .int .i64 0, .int .i64 0], .agg #[.int .i64 0, .int .i64 0, .int .i64 0, .int .i64 0], .agg #[.int .i64 0, .int .i64 0]], []⟩ 8 (by kernel_rfl) (by kernel_rfl) (by kernel_rfl) (by kernel_rfl)) ?_
  intro W base args ds gs before hval0 hW hcnd hsz0 _
  have hp : Try.f4.params.size = 3 := by rw [Try.params4]; rfl
  refine law_calls (bT := 4) surgeNeverCross_laidOut rfl (by kernel_rfl) Try.underlying4 (List.all_eq_true.1 surgeNeverCross_par) (fun ds hds => ?_) surgeNeverCross_all hval0 hW
  rw [hp] at hds
  match ds, hds with
  | [d1, d2, d3], _ => rfl
theorem surgeNeverCross_holds : Rows.SurgeNeverCrossSaid :=
  OpenClaim.holds_of_wide 4 Try.f4 rfl rfl rfl rfl rfl rfl rfl ⟨rfl, rfl, rfl, rfl, rfl⟩ rfl rfl rfl rfl rfl (by kernel_rfl) Try.func4 (by kernel_rfl)
    (of_decide_eq_true (by kernel_rfl)) (by unfold Func.isWrapper; first | (rw [if_pos (by decide +kernel)]; kernel_rfl) | (rw [if_neg (by decide +kernel)]; exact ⟨rfl, rfl⟩))
    (fun os started H enc _ => surgeNeverCross_lifted os started H enc)
#print axioms surgeNeverCross_holds
end Go.Proofs.Ytfjeopaaplnoaaa
