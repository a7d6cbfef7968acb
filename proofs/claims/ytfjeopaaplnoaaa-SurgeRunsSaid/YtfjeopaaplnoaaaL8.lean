/-
  The law SurgeRuns answers true at every input, and its arguments read afterwards as they did before. No condition.
-/
import Derived.Test.YtfjeopaaplnoaaaM8
import Derived.Test.YtfjeopaaplnoaaaAvJn
namespace Go.Proofs.Ytfjeopaaplnoaaa
open Go Go.RowKit Av
set_option maxRecDepth 100000
set_option maxHeartbeats 8000000
set_option linter.unusedSimpArgs false
set_option linter.unusedVariables false


theorem surgeRuns_own : ownKnob Try.prog.godebug = none := by kernel_rfl
theorem surgeRuns_laidOut : laidOutB Try.prog = true := by kernel_rfl
theorem surgeRuns_par : Try.f8.params.toList.all (fun T => parOk Try.prog T (parKs Try.prog T)) = true := by kernel_rfl
theorem flatAs_cons {k : FK} {ks : List FK} {cs : List AV} (h : FlatAs (k :: ks) cs) : ∃ c cs', cs = c :: cs' ∧ FlatA k c ∧ FlatAs ks cs' := by
  cases cs with
  | nil => exact h.elim
  | cons c cs => exact ⟨c, cs, rfl, h.1, h.2⟩
theorem flatAs_nil {cs : List AV} (h : FlatAs [] cs) : cs = [] := by
  cases cs with
  | nil => rfl
  | cons a rest => exact h.elim
theorem flat_ints {xs : List AV} (h : ∀ x ∈ xs, ∃ ys, x = wrapA false ys ∧ FlatAs [.int .i64] ys) : ∃ l : List Int, xs = l.map int := by
  induction xs with
  | nil => exact ⟨[], rfl⟩
  | cons x xs ih =>
    obtain ⟨l, rfl⟩ := ih (fun y hy => h y (List.mem_cons_of_mem _ hy))
    obtain ⟨ys, rfl, hf⟩ := h x (List.mem_cons_self ..)
    obtain ⟨a, y1, rfl, ⟨m, rfl, _⟩, hf1⟩ := flatAs_cons hf
    obtain rfl := flatAs_nil hf1
    exact ⟨m :: l, rfl⟩
theorem surgeRuns_k25 : parKs Try.prog 25 = [.f (.int .i64), .f (.int .i64), .f (.int .i64), .f (.int .i64), .f (.int .i64)] := by kernel_rfl
theorem surgeRuns_k45 : parKs Try.prog 45 = [.f (.int .i64), .f (.int .i64), .f (.int .i64), .f (.int .i64)] := by kernel_rfl
theorem surgeRuns_k95 : parKs Try.prog 95 = [.sl false [.int .i64], .f (.int .i64)] := by kernel_rfl
theorem surgeRuns_g : isAggT Try.prog 25 = true ∧ isAggT Try.prog 45 = true ∧ isAggT Try.prog 95 = true := ⟨by kernel_rfl, by kernel_rfl, by kernel_rfl⟩
theorem surgeRuns_all (avs : List AV) (h : ArgsA Try.prog Try.f8.params.toList avs) : DCall Try.prog 8 avs (.sc (.bool true)) := by
  rw [Try.params8] at h
  obtain ⟨r, avs1, rfl, hr, h1⟩ := argsA_cons h
  obtain ⟨s, avs2, rfl, hs, h2⟩ := argsA_cons h1
  obtain ⟨x, avs3, rfl, hx, h3⟩ := argsA_cons h2
  obtain rfl := argsA_nil h3
  rw [surgeRuns_k25] at hr
  rw [surgeRuns_k45] at hs
  rw [surgeRuns_k95] at hx
  rw [surgeRuns_g.1, surgeRuns_g.2.1, surgeRuns_g.2.2]
  obtain ⟨c, x1, rfl, hc, hx1⟩ := leafAs_cons hx
  obtain ⟨c2, x2, rfl, hc2, hx2⟩ := leafAs_cons hx1
  obtain ⟨fr, rfl, _⟩ := leafA_int hc2
  obtain rfl := leafAs_nil hx2
  obtain ⟨c_, r1, rfl, q_, hr1⟩ := leafAs_cons hr
  obtain ⟨ine, rfl, b_ine⟩ := leafA_int q_
  obtain ⟨c_, r2, rfl, q_, hr2⟩ := leafAs_cons hr1
  obtain ⟨area, rfl, b_area⟩ := leafA_int q_
  obtain ⟨c_, r3, rfl, q_, hr3⟩ := leafAs_cons hr2
  obtain ⟨flo, rfl, b_flo⟩ := leafA_int q_
  obtain ⟨c_, r4, rfl, q_, hr4⟩ := leafAs_cons hr3
  obtain ⟨fhi, rfl, b_fhi⟩ := leafA_int q_
  obtain ⟨c_, r5, rfl, q_, hr5⟩ := leafAs_cons hr4
  obtain ⟨thr, rfl, b_thr⟩ := leafA_int q_
  obtain rfl := leafAs_nil hr5
  obtain ⟨c_, s1, rfl, q_, hs1⟩ := leafAs_cons hs
  obtain ⟨x0, rfl, b_x0⟩ := leafA_int q_
  obtain ⟨c_, s2, rfl, q_, hs2⟩ := leafAs_cons hs1
  obtain ⟨x1, rfl, b_x1⟩ := leafA_int q_
  obtain ⟨c_, s3, rfl, q_, hs3⟩ := leafAs_cons hs2
  obtain ⟨x2, rfl, b_x2⟩ := leafA_int q_
  obtain ⟨c_, s4, rfl, q_, hs4⟩ := leafAs_cons hs3
  obtain ⟨x3, rfl, b_x3⟩ := leafA_int q_
  obtain rfl := leafAs_nil hs4
  rcases hc with rfl | ⟨xs, rfl, hl, hxs⟩
  · exact c8n ine area flo fhi thr x0 x1 x2 x3 fr
  · obtain ⟨l, rfl⟩ := flat_ints hxs
    by_cases hl0 : l = []
    · subst hl0
      exact c8z ine area flo fhi thr x0 x1 x2 x3 fr
    · exact c8 ine area flo fhi thr x0 x1 x2 x3 fr l hl0

theorem surgeRuns_lifted (os : Os) (started : os.Started) (H : Type) (enc : TypeId × Value → H) :
    ReturnsInHanded {} Try.checked os 8 .any (Rows.surgeRunsSpec.pre6 enc Try.prog Try.f8 Rows.surgeRunsRow.domain false) (Rows.surgeRunsSpec.post enc Try.prog Try.f8 false true false false) := by
  refine returnsInHanded_of_change_sized (C := Try.checked) surgeRuns_own started (by kernel_rfl) Try.func8
    (ChangeSpec.witness6 (enc := enc) (C := Try.checked) false ⟨#[], #[.agg #[.int .i64 0, .int .i64 0, .int .i64 0, .int .i64 0, .int .i64 0], .agg #[.int .i64 0, .int .i64 0, .int .i64 0, .int .i64 0], .agg #[.slice none 0 0, .int .i64 0]], []⟩ 8 (by kernel_rfl) (by kernel_rfl) (by kernel_rfl) (by kernel_rfl)) ?_
  intro W base args ds gs before hval0 hW hcnd hsz0 _
  have hp : Try.f8.params.size = 3 := by rw [Try.params8]; rfl
  refine law_calls (bT := 4) surgeRuns_laidOut rfl (by kernel_rfl) Try.underlying4 (List.all_eq_true.1 surgeRuns_par) (fun ds hds => ?_) surgeRuns_all hval0 hW
  rw [hp] at hds
  match ds, hds with
  | [d1, d2, d3], _ => rfl
theorem surgeRuns_holds : Rows.SurgeRunsSaid :=
  OpenClaim.holds_of_wide 8 Try.f8 rfl rfl rfl rfl rfl rfl rfl ⟨rfl, rfl, rfl, rfl, rfl⟩ rfl rfl rfl rfl rfl (by kernel_rfl) Try.func8 (by kernel_rfl)
    (of_decide_eq_true (by kernel_rfl)) (by unfold Func.isWrapper; first | (rw [if_pos (by decide +kernel)]; kernel_rfl) | (rw [if_neg (by decide +kernel)]; exact ⟨rfl, rfl⟩))
    (fun os started H enc _ => surgeRuns_lifted os started H enc)
#print axioms surgeRuns_holds
end Go.Proofs.Ytfjeopaaplnoaaa
