/-
  The law SurgeSteps answers true at every input, and its arguments read afterwards as they did before. No condition.
-/
import Derived.Test.YtfjeopaaplnoaaaC4
import Derived.Test.YtfjeopaaplnoaaaAvJn
namespace Go.Proofs.Ytfjeopaaplnoaaa
open Go Go.RowKit Av
set_option maxRecDepth 100000
set_option linter.unusedVariables false

theorem surgeSteps_own : ownKnob Try.prog.godebug = none := by kernel_rfl
theorem surgeSteps_laidOut : laidOutB Try.prog = true := by kernel_rfl
theorem surgeSteps_par : Try.f3.params.toList.all (fun T => parOk Try.prog T (parKs Try.prog T)) = true := by kernel_rfl
theorem surgeSteps_k25 : parKs Try.prog 25 = [.f (.int .i64), .f (.int .i64), .f (.int .i64), .f (.int .i64), .f (.int .i64)] := by kernel_rfl
theorem surgeSteps_k27 : parKs Try.prog 27 = [.f (.int .i64), .f (.int .i64)] := by kernel_rfl
theorem surgeSteps_k29 : parKs Try.prog 29 = [.f (.int .i64), .f (.int .i64)] := by kernel_rfl
theorem surgeSteps_g : isAggT Try.prog 25 = true ∧ isAggT Try.prog 27 = true ∧ isAggT Try.prog 29 = true := ⟨by kernel_rfl, by kernel_rfl, by kernel_rfl⟩
theorem surgeSteps_all (avs : List AV) (h : ArgsA Try.prog Try.f3.params.toList avs) : DCall Try.prog 3 avs (.sc (.bool true)) := by
  rw [Try.params3] at h
  obtain ⟨r, avs1, rfl, hr, h1⟩ := argsA_cons h
  obtain ⟨s, avs2, rfl, hs, h2⟩ := argsA_cons h1
  obtain ⟨x, avs3, rfl, hx, h3⟩ := argsA_cons h2
  obtain rfl := argsA_nil h3
  rw [surgeSteps_k25] at hr
  rw [surgeSteps_k27] at hs
  rw [surgeSteps_k29] at hx
  rw [surgeSteps_g.1, surgeSteps_g.2.1, surgeSteps_g.2.2]
  obtain ⟨c_, r1, rfl, q_, hr1⟩ := leafAs_cons hr
  obtain ⟨ine, rfl, b_ine⟩ := leafA_int q_
  obtain ⟨c_, r2, rfl, q_, hr2⟩ := leafAs_cons hr1
  obtain ⟨area, rfl, b_area⟩ := leafA_int q_
  obtain ⟨c_, r3, rfl, q_, hr3⟩ := leafAs_cons hr2
  obtain ⟨flo, rfl, b_flo⟩ := leafA_int q_
  obtain ⟨c_, r4, rfl, q_, hr4⟩ := leafAs_cons hr3
  obtain ⟨fhi, rfl, b_fhi⟩ := leafA_int q_
  obtain ⟨c_, r5, rfl, q_, hr5⟩ := leafAs_cons hr4
  obtain ⟨thr, rfl, b_thr⟩ := leafA_int q_
  obtain rfl := leafAs_nil hr5
  obtain ⟨c_, s1, rfl, q_, hs1⟩ := leafAs_cons hs
  obtain ⟨lvl, rfl, b_lvl⟩ := leafA_int q_
  obtain ⟨c_, s2, rfl, q_, hs2⟩ := leafAs_cons hs1
  obtain ⟨flow, rfl, b_flow⟩ := leafA_int q_
  obtain rfl := leafAs_nil hs2
  obtain ⟨c_, x1, rfl, q_, hx1⟩ := leafAs_cons hx
  obtain ⟨load, rfl, b_load⟩ := leafA_int q_
  obtain ⟨c_, x2, rfl, q_, hx2⟩ := leafAs_cons hx1
  obtain ⟨fr, rfl, b_fr⟩ := leafA_int q_
  obtain rfl := leafAs_nil hx2
  exact c3 ine area flo fhi thr lvl flow load fr

theorem surgeSteps_lifted (os : Os) (started : os.Started) (H : Type) (enc : TypeId × Value → H) :
    ReturnsInHanded {} Try.checked os 3 .any (Rows.surgeStepsSpec.pre6 enc Try.prog Try.f3 Rows.surgeStepsRow.domain false) (Rows.surgeStepsSpec.post enc Try.prog Try.f3 false true false false) := by
  refine returnsInHanded_of_change_sized (C := Try.checked) surgeSteps_own started (by kernel_rfl) Try.func3
    (ChangeSpec.witness6 (enc := enc) (C := Try.checked) false ⟨#[], #[.agg #[.int .i64 0, .int .i64 0, .int .i64 0, .int .i64 0, .int .i64 0], .agg #[.int .i64 0, .int .i64 0], .agg #[.int .i64 0, .int .i64 0]], []⟩ 8 (by kernel_rfl) (by kernel_rfl) (by kernel_rfl) (by kernel_rfl)) ?_
  intro W base args ds gs before hval0 hW hcnd hsz0 _
  have hp : Try.f3.params.size = 3 := by rw [Try.params3]; rfl
  refine law_calls (bT := 4) surgeSteps_laidOut rfl (by kernel_rfl) Try.underlying4 (List.all_eq_true.1 surgeSteps_par) (fun ds hds => ?_) surgeSteps_all hval0 hW
  rw [hp] at hds
  match ds, hds with
  | [d1, d2, d3], _ => rfl
theorem surgeSteps_holds : Rows.SurgeStepsSaid :=
  OpenClaim.holds_of_wide 3 Try.f3 rfl rfl rfl rfl rfl rfl rfl ⟨rfl, rfl, rfl, rfl, rfl⟩ rfl rfl rfl rfl rfl (by kernel_rfl) Try.func3 (by kernel_rfl)
    (of_decide_eq_true (by kernel_rfl)) (by unfold Func.isWrapper; first | (rw [if_pos (by decide +kernel)]; kernel_rfl) | (rw [if_neg (by decide +kernel)]; exact ⟨rfl, rfl⟩))
    (fun os started H enc _ => surgeSteps_lifted os started H enc)
#print axioms surgeSteps_holds
end Go.Proofs.Ytfjeopaaplnoaaa
