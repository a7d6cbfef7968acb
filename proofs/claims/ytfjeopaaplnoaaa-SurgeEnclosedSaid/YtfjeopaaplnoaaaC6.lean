/-
  NEVER CROSSING: the steps' own laws; the law SurgeNeverCross on values.
-/
import Derived.Test.YtfjeopaaplnoaaaPl
import Derived.Test.YtfjeopaaplnoaaaAw
namespace Go.Proofs.Ytfjeopaaplnoaaa
open Go Go.RowKit Av
set_option maxRecDepth 100000
set_option maxHeartbeats 4000000
set_option linter.unusedSimpArgs false
set_option linter.unusedSectionVars false

theorem flowI_bound {ine thr lvl flow load fr : Int} : -1000 ≤ flowI ine thr lvl flow load fr ∧ flowI ine thr lvl flow load fr ≤ 1000 := by unfold flowI; omega
section
variable {ine area flo fhi thr : Int} (V : Valid ine area flo fhi thr)
include V
theorem step_both {lvl flow load fr : Int} (hl : -1000000000 ≤ lvl ∧ lvl ≤ 1000000000) (hq : -1000 ≤ flow ∧ flow ≤ 1000) (hu : 0 ≤ load ∧ load ≤ 1000) (hf : flo ≤ fr ∧ fr ≤ fhi) :
    stepF ine thr lvl flow load fr = flowI ine thr lvl flow load fr ∧ stepV area lvl (stepF ine thr lvl flow load fr) load = lvlI area lvl (flowI ine thr lvl flow load fr) load := by
  have e := stepF_eq (load := load) (fr := fr) V.ineB V.thrB hl hq hu (by have := V.floB; have := V.fhiB; omega)
  refine ⟨e, ?_⟩
  rw [e]
  exact stepV_eq V.areaB.1 hl flowI_bound hu
theorem cross_lvl {lvl lvl' flow load fr : Int} (hl : -1000000000 ≤ lvl ∧ lvl ≤ 1000000000) (hl' : -1000000000 ≤ lvl' ∧ lvl' ≤ 1000000000) (hle : lvl ≤ lvl') (hq : -1000 ≤ flow ∧ flow ≤ 1000) (hu : 0 ≤ load ∧ load ≤ 1000) (hf : flo ≤ fr ∧ fr ≤ fhi) :
    stepF ine thr lvl' flow load fr ≤ stepF ine thr lvl flow load fr ∧ stepV area lvl (stepF ine thr lvl flow load fr) load ≤ stepV area lvl' (stepF ine thr lvl' flow load fr) load := by
  obtain ⟨a1, a2⟩ := step_both V hl hq hu hf
  obtain ⟨b1, b2⟩ := step_both V hl' hq hu hf
  obtain ⟨c1, c2⟩ := flow_anti V (flow := flow) (load := load) (fr := fr) hle
  rw [a2, b2, a1, b1]
  exact ⟨c1, lvl_lvl V hle c2⟩
theorem cross_flow {lvl flow flow' load fr : Int} (hl : -1000000000 ≤ lvl ∧ lvl ≤ 1000000000) (hq : -1000 ≤ flow) (hle : flow ≤ flow') (hq' : flow' ≤ 1000) (hu : 0 ≤ load ∧ load ≤ 1000) (hf : flo ≤ fr ∧ fr ≤ fhi) :
    stepF ine thr lvl flow load fr ≤ stepF ine thr lvl flow' load fr ∧ stepV area lvl (stepF ine thr lvl flow load fr) load ≤ stepV area lvl (stepF ine thr lvl flow' load fr) load := by
  obtain ⟨a1, a2⟩ := step_both V hl (flow := flow) (by omega) hu hf
  obtain ⟨b1, b2⟩ := step_both V hl (flow := flow') (by omega) hu hf
  have c1 := flow_mono V (lvl := lvl) hq hle hq' hu hf
  rw [a2, b2, a1, b1]
  exact ⟨c1, lvl_mono V c1⟩
end
theorem steppedE_of {ine area flo fhi thr lvl flow load fr : Int} (h1 : rulesE ine area flo fhi thr = 0) (h2 : stateE lvl flow = 0) (h3 : loadE load = 0) (h4 : fricE flo fhi fr = 0) : steppedE ine area flo fhi thr lvl flow load fr = 0 := by
  simp [steppedE, firstL, h1, h2, h3, h4]

theorem c4 (ine area flo fhi thr : Int) (l0 f0 l1 f1 load fr : Int) : DCall Try.prog 4 [.agg [int ine, int area, int flo, int fhi, int thr], .agg [int l0, int f0, int l1, int f1], .agg [int load, int fr]] (bool true) := by
  refine DCall.fnF hm Try.func4 rfl Try.ntmps4 Try.results4 (by kernel_rfl) (by kernel_rfl) (by kernel_rfl) rfl rfl (Nat.le_of_ble_eq_true rfl) ?_
  by_cases h1 : rulesE ine area flo fhi thr = 0
  case neg =>
    repeat' (conv => whnf); first
      | (refine RunE.cons ?_)
      | (refine RunD.cons ?_)
      | (refine valW.id ?_; first | (refine valW.int ?_) | (refine valW.bool ?_) | (refine valW.unit ?_) | ((first | refine valW.ptr ?_ ?_ ?_ | refine valW.el ?_ ?_ ?_); focus ((try simp only [List.length_cons, List.length_nil, List.take_succ_cons, List.take_zero, List.drop_succ_cons, List.drop_zero, List.cons_append, List.nil_append, List.append_nil, List.map_cons, List.map_nil, List.set_cons_zero, List.set_cons_succ, Nat.reduceAdd, Nat.reduceSub, Nat.reduceMul, splice, AS.setBox, AS.push, AS.pushes, AS.pushOwn, AS.setOwn, AV.cells]); first | done | rfl); focus (first | exact (rfl : _ = 0) | exact (rfl : _ = 1) | exact (rfl : _ = 2) | exact (rfl : _ = 3) | exact (rfl : _ = 4) | exact (rfl : _ = 5) | exact (rfl : _ = 6) | exact (rfl : _ = 7) | exact (rfl : _ = 8) | exact (rfl : _ = 9) | exact (rfl : _ = 10) | exact (rfl : _ = 11) | rfl)) | (refine valW.agg (cs' := [_, _]) rfl ?_) | (refine valW.agg (cs' := [_, _, _, _, _]) rfl ?_) | (refine valW.agg (cs' := [_, _, _, _]) rfl ?_) | (refine valW.agg (cs' := [_]) rfl ?_) | (refine valW.agg (cs' := [_, _, _]) rfl ?_) | (refine valW.agg (cs' := [_, _, _, _, _, _]) rfl ?_) | (refine valW.agg (cs' := [_, _, _, _, _, _, _]) rfl ?_) | (refine valW.agg (cs' := [_, _, _, _, _, _, _, _]) rfl ?_) | (refine valW.agg (cs' := [_, _, _, _, _, _, _, _, _]) rfl ?_) | (refine valW.agg (cs' := [_, _, _, _, _, _, _, _, _, _]) rfl ?_) | (refine valW.agg (cs' := [_, _, _, _, _, _, _, _, _, _, _]) rfl ?_) | (refine valW.agg (cs' := [_, _, _, _, _, _, _, _, _, _, _, _]) rfl ?_) | ((first | refine valW.agg ?_ ?_ | refine valW.sl ?_ ?_ | refine valW.tup ?_ ?_); focus ((try simp only [List.length_cons, List.length_nil, List.take_succ_cons, List.take_zero, List.drop_succ_cons, List.drop_zero, List.cons_append, List.nil_append, List.append_nil, List.map_cons, List.map_nil, List.set_cons_zero, List.set_cons_succ, Nat.reduceAdd, Nat.reduceSub, Nat.reduceMul, splice, AS.setBox, AS.push, AS.pushes, AS.pushOwn, AS.setOwn, AV.cells]); first | done | rfl)) | (refine valW.eq rfl ?_) | fail)
      | (refine stW.id ?_; first | (refine stW.eq (by first | (simp only [List.length_cons, List.length_nil, List.take_succ_cons, List.take_zero, List.drop_succ_cons, List.drop_zero, List.cons_append, List.nil_append, List.append_nil, List.map_cons, List.map_nil, List.set_cons_zero, List.set_cons_succ, Nat.reduceAdd, Nat.reduceSub, Nat.reduceMul, splice, AS.setBox, AS.push, AS.pushes, AS.pushOwn, AS.setOwn, AV.cells]; done) | (simp only [List.length_cons, List.length_nil, List.take_succ_cons, List.take_zero, List.drop_succ_cons, List.drop_zero, List.cons_append, List.nil_append, List.append_nil, List.map_cons, List.map_nil, List.set_cons_zero, List.set_cons_succ, Nat.reduceAdd, Nat.reduceSub, Nat.reduceMul, splice, AS.setBox, AS.push, AS.pushes, AS.pushOwn, AS.setOwn, AV.cells]; rfl) | rfl) ?_) | (refine stW.mk' ?_))
      | (refine RunE.nil ?_)
      | (refine RunD.nil ?_)
      | (refine RunC.seq ?_)
      | (refine RunC.regE ?_)
      | (refine RunC.regD (by kernel_rfl) ?_)
      | (refine RunC.cond ?_)
      | (refine RunC.block ?_)
      | (refine RunC.ret ?_)
      | (refine RunC.exit ?_)
      | (refine RunC.skip ?_)
      | (refine RunC.label ?_)
      | (refine callG.id ?_; first | (refine callG.by (c15) ?_) | (refine callG.by (c16 _ _ _ _ _ _ _ _ _) ?_) | (refine callG.by (c17 _ _ _ _ _) ?_) | (refine callG.by (c19 _ _) ?_) | (refine callG.by (c21 _) ?_) | (refine callG.by (c22 _ _ _ _ _ _) ?_) | fail)
      | (refine ACallH.id ?_; first | (refine ACallH.by (c15) ?_) | (refine ACallH.by (c16 _ _ _ _ _ _ _ _ _) ?_) | (refine ACallH.by (c17 _ _ _ _ _) ?_) | (refine ACallH.by (c19 _ _) ?_) | (refine ACallH.by (c21 _) ?_) | (refine ACallH.by (c22 _ _ _ _ _ _) ?_) | fail)
      | (refine ifH.id ?_; first | (refine ifH_isT (by assumption) ?_) | (refine ifH_isF (by assumption) ?_) | (refine ifH_pos (by assumption) ?_) | (refine ifH_neg (by assumption) ?_) | (refine ifH_isT rfl ?_) | (refine ifH_isF rfl ?_) | (refine ifH_not ?_) | (refine ifH_isT ?_ ?_; focus (simp [h1]; done)) | (refine ifH_isF ?_ ?_; focus (simp [h1]; done)) | fail)
      | (refine someH.id ?_; first | (refine someH_of rfl ?_) | (refine someH_of (by assumption) ?_) | (refine someH_of azero_27 ?_) | (refine someH_of azero_45 ?_) | (refine someH_of azero_23 ?_) | (refine someH_of azero_60 ?_) | (refine someH_of azero_95 ?_) | (refine someH_of azero_63 ?_) | (refine someH_of azero_116 ?_) | (refine someH_of azero_114 ?_) | (refine someH_of azero_137 ?_) | (refine someH_of azero_57 ?_) | (refine someH_of aslc_61 ?_) | (refine someH_of azero_29 ?_) | (refine someH_of aslc_55 ?_) | (refine someH_of aslc_58 ?_) | (refine someH_of aslc_208 ?_) | (refine someH_of azero_160 ?_) | (refine someH_of azero_168 ?_) | (refine someH_of azero_173 ?_) | (refine someH_of azero_175 ?_) | (refine someH_of azero_3 ?_) | (refine someH_of azero_131 ?_) | (refine someH_of azero_25 ?_) | (refine someH_of azero_96 ?_) | (refine someH_of azero_55 ?_) | (refine someH_of azero_81 ?_) | (refine someH_of aslc_81 ?_) | (refine someH_of azero_4 ?_) | (refine someH_of azero_217 ?_) | (refine someH_of azero_129 ?_) | (refine someH_of azero_61 ?_) | (refine someH_of aslc_206 ?_) | (refine someH_of (aggEqw_27 _ _ _ _) ?_) | (refine someH_of (aggEqw_45 _ _ _ _ _ _ _ _) ?_) | (refine someH_of (aggEqw_116 _ _ _ _) ?_) | (refine someH_of (aggEqw_23 _ _ _ _) ?_) | fail)
      | (refine And.intro rfl ?_)
      | (refine And.intro (by assumption) ?_)
      | (refine And.intro (by decide) ?_)
      | fail
    all_goals (exact FinW.of (bool _) rfl (by simp [h1]))
  by_cases h2 : stateE l0 f0 = 0
  case neg =>
    repeat' (conv => whnf); first
      | (refine RunE.cons ?_)
      | (refine RunD.cons ?_)
      | (refine valW.id ?_; first | (refine valW.int ?_) | (refine valW.bool ?_) | (refine valW.unit ?_) | ((first | refine valW.ptr ?_ ?_ ?_ | refine valW.el ?_ ?_ ?_); focus ((try simp only [List.length_cons, List.length_nil, List.take_succ_cons, List.take_zero, List.drop_succ_cons, List.drop_zero, List.cons_append, List.nil_append, List.append_nil, List.map_cons, List.map_nil, List.set_cons_zero, List.set_cons_succ, Nat.reduceAdd, Nat.reduceSub, Nat.reduceMul, splice, AS.setBox, AS.push, AS.pushes, AS.pushOwn, AS.setOwn, AV.cells]); first | done | rfl); focus (first | exact (rfl : _ = 0) | exact (rfl : _ = 1) | exact (rfl : _ = 2) | exact (rfl : _ = 3) | exact (rfl : _ = 4) | exact (rfl : _ = 5) | exact (rfl : _ = 6) | exact (rfl : _ = 7) | exact (rfl : _ = 8) | exact (rfl : _ = 9) | exact (rfl : _ = 10) | exact (rfl : _ = 11) | rfl)) | (refine valW.agg (cs' := [_, _]) rfl ?_) | (refine valW.agg (cs' := [_, _, _, _, _]) rfl ?_) | (refine valW.agg (cs' := [_, _, _, _]) rfl ?_) | (refine valW.agg (cs' := [_]) rfl ?_) | (refine valW.agg (cs' := [_, _, _]) rfl ?_) | (refine valW.agg (cs' := [_, _, _, _, _, _]) rfl ?_) | (refine valW.agg (cs' := [_, _, _, _, _, _, _]) rfl ?_) | (refine valW.agg (cs' := [_, _, _, _, _, _, _, _]) rfl ?_) | (refine valW.agg (cs' := [_, _, _, _, _, _, _, _, _]) rfl ?_) | (refine valW.agg (cs' := [_, _, _, _, _, _, _, _, _, _]) rfl ?_) | (refine valW.agg (cs' := [_, _, _, _, _, _, _, _, _, _, _]) rfl ?_) | (refine valW.agg (cs' := [_, _, _, _, _, _, _, _, _, _, _, _]) rfl ?_) | ((first | refine valW.agg ?_ ?_ | refine valW.sl ?_ ?_ | refine valW.tup ?_ ?_); focus ((try simp only [List.length_cons, List.length_nil, List.take_succ_cons, List.take_zero, List.drop_succ_cons, List.drop_zero, List.cons_append, List.nil_append, List.append_nil, List.map_cons, List.map_nil, List.set_cons_zero, List.set_cons_succ, Nat.reduceAdd, Nat.reduceSub, Nat.reduceMul, splice, AS.setBox, AS.push, AS.pushes, AS.pushOwn, AS.setOwn, AV.cells]); first | done | rfl)) | (refine valW.eq rfl ?_) | fail)
      | (refine stW.id ?_; first | (refine stW.eq (by first | (simp only [List.length_cons, List.length_nil, List.take_succ_cons, List.take_zero, List.drop_succ_cons, List.drop_zero, List.cons_append, List.nil_append, List.append_nil, List.map_cons, List.map_nil, List.set_cons_zero, List.set_cons_succ, Nat.reduceAdd, Nat.reduceSub, Nat.reduceMul, splice, AS.setBox, AS.push, AS.pushes, AS.pushOwn, AS.setOwn, AV.cells]; done) | (simp only [List.length_cons, List.length_nil, List.take_succ_cons, List.take_zero, List.drop_succ_cons, List.drop_zero, List.cons_append, List.nil_append, List.append_nil, List.map_cons, List.map_nil, List.set_cons_zero, List.set_cons_succ, Nat.reduceAdd, Nat.reduceSub, Nat.reduceMul, splice, AS.setBox, AS.push, AS.pushes, AS.pushOwn, AS.setOwn, AV.cells]; rfl) | rfl) ?_) | (refine stW.mk' ?_))
      | (refine RunE.nil ?_)
      | (refine RunD.nil ?_)
      | (refine RunC.seq ?_)
      | (refine RunC.regE ?_)
      | (refine RunC.regD (by kernel_rfl) ?_)
      | (refine RunC.cond ?_)
      | (refine RunC.block ?_)
      | (refine RunC.ret ?_)
      | (refine RunC.exit ?_)
      | (refine RunC.skip ?_)
      | (refine RunC.label ?_)
      | (refine callG.id ?_; first | (refine callG.by (c15) ?_) | (refine callG.by (c16 _ _ _ _ _ _ _ _ _) ?_) | (refine callG.by (c17 _ _ _ _ _) ?_) | (refine callG.by (c19 _ _) ?_) | (refine callG.by (c21 _) ?_) | (refine callG.by (c22 _ _ _ _ _ _) ?_) | fail)
      | (refine ACallH.id ?_; first | (refine ACallH.by (c15) ?_) | (refine ACallH.by (c16 _ _ _ _ _ _ _ _ _) ?_) | (refine ACallH.by (c17 _ _ _ _ _) ?_) | (refine ACallH.by (c19 _ _) ?_) | (refine ACallH.by (c21 _) ?_) | (refine ACallH.by (c22 _ _ _ _ _ _) ?_) | fail)
      | (refine ifH.id ?_; first | (refine ifH_isT (by assumption) ?_) | (refine ifH_isF (by assumption) ?_) | (refine ifH_pos (by assumption) ?_) | (refine ifH_neg (by assumption) ?_) | (refine ifH_isT rfl ?_) | (refine ifH_isF rfl ?_) | (refine ifH_not ?_) | (refine ifH_isT ?_ ?_; focus (simp [h1, h2]; done)) | (refine ifH_isF ?_ ?_; focus (simp [h1, h2]; done)) | fail)
      | (refine someH.id ?_; first | (refine someH_of rfl ?_) | (refine someH_of (by assumption) ?_) | (refine someH_of azero_27 ?_) | (refine someH_of azero_45 ?_) | (refine someH_of azero_23 ?_) | (refine someH_of azero_60 ?_) | (refine someH_of azero_95 ?_) | (refine someH_of azero_63 ?_) | (refine someH_of azero_116 ?_) | (refine someH_of azero_114 ?_) | (refine someH_of azero_137 ?_) | (refine someH_of azero_57 ?_) | (refine someH_of aslc_61 ?_) | (refine someH_of azero_29 ?_) | (refine someH_of aslc_55 ?_) | (refine someH_of aslc_58 ?_) | (refine someH_of aslc_208 ?_) | (refine someH_of azero_160 ?_) | (refine someH_of azero_168 ?_) | (refine someH_of azero_173 ?_) | (refine someH_of azero_175 ?_) | (refine someH_of azero_3 ?_) | (refine someH_of azero_131 ?_) | (refine someH_of azero_25 ?_) | (refine someH_of azero_96 ?_) | (refine someH_of azero_55 ?_) | (refine someH_of azero_81 ?_) | (refine someH_of aslc_81 ?_) | (refine someH_of azero_4 ?_) | (refine someH_of azero_217 ?_) | (refine someH_of azero_129 ?_) | (refine someH_of azero_61 ?_) | (refine someH_of aslc_206 ?_) | (refine someH_of (aggEqw_27 _ _ _ _) ?_) | (refine someH_of (aggEqw_45 _ _ _ _ _ _ _ _) ?_) | (refine someH_of (aggEqw_116 _ _ _ _) ?_) | (refine someH_of (aggEqw_23 _ _ _ _) ?_) | fail)
      | (refine And.intro rfl ?_)
      | (refine And.intro (by assumption) ?_)
      | (refine And.intro (by decide) ?_)
      | fail
    all_goals (exact FinW.of (bool _) rfl (by simp [h1, h2]))
  by_cases h3 : stateE l1 f1 = 0
  case neg =>
    repeat' (conv => whnf); first
      | (refine RunE.cons ?_)
      | (refine RunD.cons ?_)
      | (refine valW.id ?_; first | (refine valW.int ?_) | (refine valW.bool ?_) | (refine valW.unit ?_) | ((first | refine valW.ptr ?_ ?_ ?_ | refine valW.el ?_ ?_ ?_); focus ((try simp only [List.length_cons, List.length_nil, List.take_succ_cons, List.take_zero, List.drop_succ_cons, List.drop_zero, List.cons_append, List.nil_append, List.append_nil, List.map_cons, List.map_nil, List.set_cons_zero, List.set_cons_succ, Nat.reduceAdd, Nat.reduceSub, Nat.reduceMul, splice, AS.setBox, AS.push, AS.pushes, AS.pushOwn, AS.setOwn, AV.cells]); first | done | rfl); focus (first | exact (rfl : _ = 0) | exact (rfl : _ = 1) | exact (rfl : _ = 2) | exact (rfl : _ = 3) | exact (rfl : _ = 4) | exact (rfl : _ = 5) | exact (rfl : _ = 6) | exact (rfl : _ = 7) | exact (rfl : _ = 8) | exact (rfl : _ = 9) | exact (rfl : _ = 10) | exact (rfl : _ = 11) | rfl)) | (refine valW.agg (cs' := [_, _]) rfl ?_) | (refine valW.agg (cs' := [_, _, _, _, _]) rfl ?_) | (refine valW.agg (cs' := [_, _, _, _]) rfl ?_) | (refine valW.agg (cs' := [_]) rfl ?_) | (refine valW.agg (cs' := [_, _, _]) rfl ?_) | (refine valW.agg (cs' := [_, _, _, _, _, _]) rfl ?_) | (refine valW.agg (cs' := [_, _, _, _, _, _, _]) rfl ?_) | (refine valW.agg (cs' := [_, _, _, _, _, _, _, _]) rfl ?_) | (refine valW.agg (cs' := [_, _, _, _, _, _, _, _, _]) rfl ?_) | (refine valW.agg (cs' := [_, _, _, _, _, _, _, _, _, _]) rfl ?_) | (refine valW.agg (cs' := [_, _, _, _, _, _, _, _, _, _, _]) rfl ?_) | (refine valW.agg (cs' := [_, _, _, _, _, _, _, _, _, _, _, _]) rfl ?_) | ((first | refine valW.agg ?_ ?_ | refine valW.sl ?_ ?_ | refine valW.tup ?_ ?_); focus ((try simp only [List.length_cons, List.length_nil, List.take_succ_cons, List.take_zero, List.drop_succ_cons, List.drop_zero, List.cons_append, List.nil_append, List.append_nil, List.map_cons, List.map_nil, List.set_cons_zero, List.set_cons_succ, Nat.reduceAdd, Nat.reduceSub, Nat.reduceMul, splice, AS.setBox, AS.push, AS.pushes, AS.pushOwn, AS.setOwn, AV.cells]); first | done | rfl)) | (refine valW.eq rfl ?_) | fail)
      | (refine stW.id ?_; first | (refine stW.eq (by first | (simp only [List.length_cons, List.length_nil, List.take_succ_cons, List.take_zero, List.drop_succ_cons, List.drop_zero, List.cons_append, List.nil_append, List.append_nil, List.map_cons, List.map_nil, List.set_cons_zero, List.set_cons_succ, Nat.reduceAdd, Nat.reduceSub, Nat.reduceMul, splice, AS.setBox, AS.push, AS.pushes, AS.pushOwn, AS.setOwn, AV.cells]; done) | (simp only [List.length_cons, List.length_nil, List.take_succ_cons, List.take_zero, List.drop_succ_cons, List.drop_zero, List.cons_append, List.nil_append, List.append_nil, List.map_cons, List.map_nil, List.set_cons_zero, List.set_cons_succ, Nat.reduceAdd, Nat.reduceSub, Nat.reduceMul, splice, AS.setBox, AS.push, AS.pushes, AS.pushOwn, AS.setOwn, AV.cells]; rfl) | rfl) ?_) | (refine stW.mk' ?_))
      | (refine RunE.nil ?_)
      | (refine RunD.nil ?_)
      | (refine RunC.seq ?_)
      | (refine RunC.regE ?_)
      | (refine RunC.regD (by kernel_rfl) ?_)
      | (refine RunC.cond ?_)
      | (refine RunC.block ?_)
      | (refine RunC.ret ?_)
      | (refine RunC.exit ?_)
      | (refine RunC.skip ?_)
      | (refine RunC.label ?_)
      | (refine callG.id ?_; first | (refine callG.by (c15) ?_) | (refine callG.by (c16 _ _ _ _ _ _ _ _ _) ?_) | (refine callG.by (c17 _ _ _ _ _) ?_) | (refine callG.by (c19 _ _) ?_) | (refine callG.by (c21 _) ?_) | (refine callG.by (c22 _ _ _ _ _ _) ?_) | fail)
      | (refine ACallH.id ?_; first | (refine ACallH.by (c15) ?_) | (refine ACallH.by (c16 _ _ _ _ _ _ _ _ _) ?_) | (refine ACallH.by (c17 _ _ _ _ _) ?_) | (refine ACallH.by (c19 _ _) ?_) | (refine ACallH.by (c21 _) ?_) | (refine ACallH.by (c22 _ _ _ _ _ _) ?_) | fail)
      | (refine ifH.id ?_; first | (refine ifH_isT (by assumption) ?_) | (refine ifH_isF (by assumption) ?_) | (refine ifH_pos (by assumption) ?_) | (refine ifH_neg (by assumption) ?_) | (refine ifH_isT rfl ?_) | (refine ifH_isF rfl ?_) | (refine ifH_not ?_) | (refine ifH_isT ?_ ?_; focus (simp [h1, h2, h3]; done)) | (refine ifH_isF ?_ ?_; focus (simp [h1, h2, h3]; done)) | fail)
      | (refine someH.id ?_; first | (refine someH_of rfl ?_) | (refine someH_of (by assumption) ?_) | (refine someH_of azero_27 ?_) | (refine someH_of azero_45 ?_) | (refine someH_of azero_23 ?_) | (refine someH_of azero_60 ?_) | (refine someH_of azero_95 ?_) | (refine someH_of azero_63 ?_) | (refine someH_of azero_116 ?_) | (refine someH_of azero_114 ?_) | (refine someH_of azero_137 ?_) | (refine someH_of azero_57 ?_) | (refine someH_of aslc_61 ?_) | (refine someH_of azero_29 ?_) | (refine someH_of aslc_55 ?_) | (refine someH_of aslc_58 ?_) | (refine someH_of aslc_208 ?_) | (refine someH_of azero_160 ?_) | (refine someH_of azero_168 ?_) | (refine someH_of azero_173 ?_) | (refine someH_of azero_175 ?_) | (refine someH_of azero_3 ?_) | (refine someH_of azero_131 ?_) | (refine someH_of azero_25 ?_) | (refine someH_of azero_96 ?_) | (refine someH_of azero_55 ?_) | (refine someH_of azero_81 ?_) | (refine someH_of aslc_81 ?_) | (refine someH_of azero_4 ?_) | (refine someH_of azero_217 ?_) | (refine someH_of azero_129 ?_) | (refine someH_of azero_61 ?_) | (refine someH_of aslc_206 ?_) | (refine someH_of (aggEqw_27 _ _ _ _) ?_) | (refine someH_of (aggEqw_45 _ _ _ _ _ _ _ _) ?_) | (refine someH_of (aggEqw_116 _ _ _ _) ?_) | (refine someH_of (aggEqw_23 _ _ _ _) ?_) | fail)
      | (refine And.intro rfl ?_)
      | (refine And.intro (by assumption) ?_)
      | (refine And.intro (by decide) ?_)
      | fail
    all_goals (exact FinW.of (bool _) rfl (by simp [h1, h2, h3]))
  by_cases h4 : loadE load = 0
  case neg =>
    repeat' (conv => whnf); first
      | (refine RunE.cons ?_)
      | (refine RunD.cons ?_)
      | (refine valW.id ?_; first | (refine valW.int ?_) | (refine valW.bool ?_) | (refine valW.unit ?_) | ((first | refine valW.ptr ?_ ?_ ?_ | refine valW.el ?_ ?_ ?_); focus ((try simp only [List.length_cons, List.length_nil, List.take_succ_cons, List.take_zero, List.drop_succ_cons, List.drop_zero, List.cons_append, List.nil_append, List.append_nil, List.map_cons, List.map_nil, List.set_cons_zero, List.set_cons_succ, Nat.reduceAdd, Nat.reduceSub, Nat.reduceMul, splice, AS.setBox, AS.push, AS.pushes, AS.pushOwn, AS.setOwn, AV.cells]); first | done | rfl); focus (first | exact (rfl : _ = 0) | exact (rfl : _ = 1) | exact (rfl : _ = 2) | exact (rfl : _ = 3) | exact (rfl : _ = 4) | exact (rfl : _ = 5) | exact (rfl : _ = 6) | exact (rfl : _ = 7) | exact (rfl : _ = 8) | exact (rfl : _ = 9) | exact (rfl : _ = 10) | exact (rfl : _ = 11) | rfl)) | (refine valW.agg (cs' := [_, _]) rfl ?_) | (refine valW.agg (cs' := [_, _, _, _, _]) rfl ?_) | (refine valW.agg (cs' := [_, _, _, _]) rfl ?_) | (refine valW.agg (cs' := [_]) rfl ?_) | (refine valW.agg (cs' := [_, _, _]) rfl ?_) | (refine valW.agg (cs' := [_, _, _, _, _, _]) rfl ?_) | (refine valW.agg (cs' := [_, _, _, _, _, _, _]) rfl ?_) | (refine valW.agg (cs' := [_, _, _, _, _, _, _, _]) rfl ?_) | (refine valW.agg (cs' := [_, _, _, _, _, _, _, _, _]) rfl ?_) | (refine valW.agg (cs' := [_, _, _, _, _, _, _, _, _, _]) rfl ?_) | (refine valW.agg (cs' := [_, _, _, _, _, _, _, _, _, _, _]) rfl ?_) | (refine valW.agg (cs' := [_, _, _, _, _, _, _, _, _, _, _, _]) rfl ?_) | ((first | refine valW.agg ?_ ?_ | refine valW.sl ?_ ?_ | refine valW.tup ?_ ?_); focus ((try simp only [List.length_cons, List.length_nil, List.take_succ_cons, List.take_zero, List.drop_succ_cons, List.drop_zero, List.cons_append, List.nil_append, List.append_nil, List.map_cons, List.map_nil, List.set_cons_zero, List.set_cons_succ, Nat.reduceAdd, Nat.reduceSub, Nat.reduceMul, splice, AS.setBox, AS.push, AS.pushes, AS.pushOwn, AS.setOwn, AV.cells]); first | done | rfl)) | (refine valW.eq rfl ?_) | fail)
      | (refine stW.id ?_; first | (refine stW.eq (by first | (simp only [List.length_cons, List.length_nil, List.take_succ_cons, List.take_zero, List.drop_succ_cons, List.drop_zero, List.cons_append, List.nil_append, List.append_nil, List.map_cons, List.map_nil, List.set_cons_zero, List.set_cons_succ, Nat.reduceAdd, Nat.reduceSub, Nat.reduceMul, splice, AS.setBox, AS.push, AS.pushes, AS.pushOwn, AS.setOwn, AV.cells]; done) | (simp only [List.length_cons, List.length_nil, List.take_succ_cons, List.take_zero, List.drop_succ_cons, List.drop_zero, List.cons_append, List.nil_append, List.append_nil, List.map_cons, List.map_nil, List.set_cons_zero, List.set_cons_succ, Nat.reduceAdd, Nat.reduceSub, Nat.reduceMul, splice, AS.setBox, AS.push, AS.pushes, AS.pushOwn, AS.setOwn, AV.cells]; rfl) | rfl) ?_) | (refine stW.mk' ?_))
      | (refine RunE.nil ?_)
      | (refine RunD.nil ?_)
      | (refine RunC.seq ?_)
      | (refine RunC.regE ?_)
      | (refine RunC.regD (by kernel_rfl) ?_)
      | (refine RunC.cond ?_)
      | (refine RunC.block ?_)
      | (refine RunC.ret ?_)
      | (refine RunC.exit ?_)
      | (refine RunC.skip ?_)
      | (refine RunC.label ?_)
      | (refine callG.id ?_; first | (refine callG.by (c15) ?_) | (refine callG.by (c16 _ _ _ _ _ _ _ _ _) ?_) | (refine callG.by (c17 _ _ _ _ _) ?_) | (refine callG.by (c19 _ _) ?_) | (refine callG.by (c21 _) ?_) | (refine callG.by (c22 _ _ _ _ _ _) ?_) | fail)
      | (refine ACallH.id ?_; first | (refine ACallH.by (c15) ?_) | (refine ACallH.by (c16 _ _ _ _ _ _ _ _ _) ?_) | (refine ACallH.by (c17 _ _ _ _ _) ?_) | (refine ACallH.by (c19 _ _) ?_) | (refine ACallH.by (c21 _) ?_) | (refine ACallH.by (c22 _ _ _ _ _ _) ?_) | fail)
      | (refine ifH.id ?_; first | (refine ifH_isT (by assumption) ?_) | (refine ifH_isF (by assumption) ?_) | (refine ifH_pos (by assumption) ?_) | (refine ifH_neg (by assumption) ?_) | (refine ifH_isT rfl ?_) | (refine ifH_isF rfl ?_) | (refine ifH_not ?_) | (refine ifH_isT ?_ ?_; focus (simp [h1, h2, h3, h4]; done)) | (refine ifH_isF ?_ ?_; focus (simp [h1, h2, h3, h4]; done)) | fail)
      | (refine someH.id ?_; first | (refine someH_of rfl ?_) | (refine someH_of (by assumption) ?_) | (refine someH_of azero_27 ?_) | (refine someH_of azero_45 ?_) | (refine someH_of azero_23 ?_) | (refine someH_of azero_60 ?_) | (refine someH_of azero_95 ?_) | (refine someH_of azero_63 ?_) | (refine someH_of azero_116 ?_) | (refine someH_of azero_114 ?_) | (refine someH_of azero_137 ?_) | (refine someH_of azero_57 ?_) | (refine someH_of aslc_61 ?_) | (refine someH_of azero_29 ?_) | (refine someH_of aslc_55 ?_) | (refine someH_of aslc_58 ?_) | (refine someH_of aslc_208 ?_) | (refine someH_of azero_160 ?_) | (refine someH_of azero_168 ?_) | (refine someH_of azero_173 ?_) | (refine someH_of azero_175 ?_) | (refine someH_of azero_3 ?_) | (refine someH_of azero_131 ?_) | (refine someH_of azero_25 ?_) | (refine someH_of azero_96 ?_) | (refine someH_of azero_55 ?_) | (refine someH_of azero_81 ?_) | (refine someH_of aslc_81 ?_) | (refine someH_of azero_4 ?_) | (refine someH_of azero_217 ?_) | (refine someH_of azero_129 ?_) | (refine someH_of azero_61 ?_) | (refine someH_of aslc_206 ?_) | (refine someH_of (aggEqw_27 _ _ _ _) ?_) | (refine someH_of (aggEqw_45 _ _ _ _ _ _ _ _) ?_) | (refine someH_of (aggEqw_116 _ _ _ _) ?_) | (refine someH_of (aggEqw_23 _ _ _ _) ?_) | fail)
      | (refine And.intro rfl ?_)
      | (refine And.intro (by assumption) ?_)
      | (refine And.intro (by decide) ?_)
      | fail
    all_goals (exact FinW.of (bool _) rfl (by simp [h1, h2, h3, h4]))
  by_cases h5 : fricE flo fhi fr = 0
  case neg =>
    repeat' (conv => whnf); first
      | (refine RunE.cons ?_)
      | (refine RunD.cons ?_)
      | (refine valW.id ?_; first | (refine valW.int ?_) | (refine valW.bool ?_) | (refine valW.unit ?_) | ((first | refine valW.ptr ?_ ?_ ?_ | refine valW.el ?_ ?_ ?_); focus ((try simp only [List.length_cons, List.length_nil, List.take_succ_cons, List.take_zero, List.drop_succ_cons, List.drop_zero, List.cons_append, List.nil_append, List.append_nil, List.map_cons, List.map_nil, List.set_cons_zero, List.set_cons_succ, Nat.reduceAdd, Nat.reduceSub, Nat.reduceMul, splice, AS.setBox, AS.push, AS.pushes, AS.pushOwn, AS.setOwn, AV.cells]); first | done | rfl); focus (first | exact (rfl : _ = 0) | exact (rfl : _ = 1) | exact (rfl : _ = 2) | exact (rfl : _ = 3) | exact (rfl : _ = 4) | exact (rfl : _ = 5) | exact (rfl : _ = 6) | exact (rfl : _ = 7) | exact (rfl : _ = 8) | exact (rfl : _ = 9) | exact (rfl : _ = 10) | exact (rfl : _ = 11) | rfl)) | (refine valW.agg (cs' := [_, _]) rfl ?_) | (refine valW.agg (cs' := [_, _, _, _, _]) rfl ?_) | (refine valW.agg (cs' := [_, _, _, _]) rfl ?_) | (refine valW.agg (cs' := [_]) rfl ?_) | (refine valW.agg (cs' := [_, _, _]) rfl ?_) | (refine valW.agg (cs' := [_, _, _, _, _, _]) rfl ?_) | (refine valW.agg (cs' := [_, _, _, _, _, _, _]) rfl ?_) | (refine valW.agg (cs' := [_, _, _, _, _, _, _, _]) rfl ?_) | (refine valW.agg (cs' := [_, _, _, _, _, _, _, _, _]) rfl ?_) | (refine valW.agg (cs' := [_, _, _, _, _, _, _, _, _, _]) rfl ?_) | (refine valW.agg (cs' := [_, _, _, _, _, _, _, _, _, _, _]) rfl ?_) | (refine valW.agg (cs' := [_, _, _, _, _, _, _, _, _, _, _, _]) rfl ?_) | ((first | refine valW.agg ?_ ?_ | refine valW.sl ?_ ?_ | refine valW.tup ?_ ?_); focus ((try simp only [List.length_cons, List.length_nil, List.take_succ_cons, List.take_zero, List.drop_succ_cons, List.drop_zero, List.cons_append, List.nil_append, List.append_nil, List.map_cons, List.map_nil, List.set_cons_zero, List.set_cons_succ, Nat.reduceAdd, Nat.reduceSub, Nat.reduceMul, splice, AS.setBox, AS.push, AS.pushes, AS.pushOwn, AS.setOwn, AV.cells]); first | done | rfl)) | (refine valW.eq rfl ?_) | fail)
      | (refine stW.id ?_; first | (refine stW.eq (by first | (simp only [List.length_cons, List.length_nil, List.take_succ_cons, List.take_zero, List.drop_succ_cons, List.drop_zero, List.cons_append, List.nil_append, List.append_nil, List.map_cons, List.map_nil, List.set_cons_zero, List.set_cons_succ, Nat.reduceAdd, Nat.reduceSub, Nat.reduceMul, splice, AS.setBox, AS.push, AS.pushes, AS.pushOwn, AS.setOwn, AV.cells]; done) | (simp only [List.length_cons, List.length_nil, List.take_succ_cons, List.take_zero, List.drop_succ_cons, List.drop_zero, List.cons_append, List.nil_append, List.append_nil, List.map_cons, List.map_nil, List.set_cons_zero, List.set_cons_succ, Nat.reduceAdd, Nat.reduceSub, Nat.reduceMul, splice, AS.setBox, AS.push, AS.pushes, AS.pushOwn, AS.setOwn, AV.cells]; rfl) | rfl) ?_) | (refine stW.mk' ?_))
      | (refine RunE.nil ?_)
      | (refine RunD.nil ?_)
      | (refine RunC.seq ?_)
      | (refine RunC.regE ?_)
      | (refine RunC.regD (by kernel_rfl) ?_)
      | (refine RunC.cond ?_)
      | (refine RunC.block ?_)
      | (refine RunC.ret ?_)
      | (refine RunC.exit ?_)
      | (refine RunC.skip ?_)
      | (refine RunC.label ?_)
      | (refine callG.id ?_; first | (refine callG.by (c15) ?_) | (refine callG.by (c16 _ _ _ _ _ _ _ _ _) ?_) | (refine callG.by (c17 _ _ _ _ _) ?_) | (refine callG.by (c19 _ _) ?_) | (refine callG.by (c21 _) ?_) | (refine callG.by (c22 _ _ _ _ _ _) ?_) | fail)
      | (refine ACallH.id ?_; first | (refine ACallH.by (c15) ?_) | (refine ACallH.by (c16 _ _ _ _ _ _ _ _ _) ?_) | (refine ACallH.by (c17 _ _ _ _ _) ?_) | (refine ACallH.by (c19 _ _) ?_) | (refine ACallH.by (c21 _) ?_) | (refine ACallH.by (c22 _ _ _ _ _ _) ?_) | fail)
      | (refine ifH.id ?_; first | (refine ifH_isT (by assumption) ?_) | (refine ifH_isF (by assumption) ?_) | (refine ifH_pos (by assumption) ?_) | (refine ifH_neg (by assumption) ?_) | (refine ifH_isT rfl ?_) | (refine ifH_isF rfl ?_) | (refine ifH_not ?_) | (refine ifH_isT ?_ ?_; focus (simp [h1, h2, h3, h4, h5]; done)) | (refine ifH_isF ?_ ?_; focus (simp [h1, h2, h3, h4, h5]; done)) | fail)
      | (refine someH.id ?_; first | (refine someH_of rfl ?_) | (refine someH_of (by assumption) ?_) | (refine someH_of azero_27 ?_) | (refine someH_of azero_45 ?_) | (refine someH_of azero_23 ?_) | (refine someH_of azero_60 ?_) | (refine someH_of azero_95 ?_) | (refine someH_of azero_63 ?_) | (refine someH_of azero_116 ?_) | (refine someH_of azero_114 ?_) | (refine someH_of azero_137 ?_) | (refine someH_of azero_57 ?_) | (refine someH_of aslc_61 ?_) | (refine someH_of azero_29 ?_) | (refine someH_of aslc_55 ?_) | (refine someH_of aslc_58 ?_) | (refine someH_of aslc_208 ?_) | (refine someH_of azero_160 ?_) | (refine someH_of azero_168 ?_) | (refine someH_of azero_173 ?_) | (refine someH_of azero_175 ?_) | (refine someH_of azero_3 ?_) | (refine someH_of azero_131 ?_) | (refine someH_of azero_25 ?_) | (refine someH_of azero_96 ?_) | (refine someH_of azero_55 ?_) | (refine someH_of azero_81 ?_) | (refine someH_of aslc_81 ?_) | (refine someH_of azero_4 ?_) | (refine someH_of azero_217 ?_) | (refine someH_of azero_129 ?_) | (refine someH_of azero_61 ?_) | (refine someH_of aslc_206 ?_) | (refine someH_of (aggEqw_27 _ _ _ _) ?_) | (refine someH_of (aggEqw_45 _ _ _ _ _ _ _ _) ?_) | (refine someH_of (aggEqw_116 _ _ _ _) ?_) | (refine someH_of (aggEqw_23 _ _ _ _) ?_) | fail)
      | (refine And.intro rfl ?_)
      | (refine And.intro (by assumption) ?_)
      | (refine And.intro (by decide) ?_)
      | fail
    all_goals (exact FinW.of (bool _) rfl (by simp [h1, h2, h3, h4, h5]))
  have V := Valid.of h1
  have s0 := stateE_zero.1 h2
  have s1 := stateE_zero.1 h3
  have hu := loadE_zero.1 h4
  have hf := fricE_zero.1 h5
  have e1 := steppedE_of (lvl := min l0 l1) (flow := min f0 f1) h1 (stateE_zero.2 (by omega)) h4 h5
  have e2 := steppedE_of (lvl := max l0 l1) (flow := min f0 f1) h1 (stateE_zero.2 (by omega)) h4 h5
  have e3 := steppedE_of (lvl := min l0 l1) (flow := max f0 f1) h1 (stateE_zero.2 (by omega)) h4 h5
  obtain ⟨m1, m2⟩ := cross_lvl V (lvl := min l0 l1) (lvl' := max l0 l1) (flow := min f0 f1) (by omega) (by omega) (by omega) (by omega) hu hf
  obtain ⟨m3, m4⟩ := cross_flow V (lvl := min l0 l1) (flow := min f0 f1) (flow' := max f0 f1) (by omega) (by omega) (by omega) (by omega) hu hf
  clear V s0 s1 hu hf
  repeat' (conv => whnf); first
    | (refine RunE.cons ?_)
    | (refine RunD.cons ?_)
    | (refine valW.id ?_; first | (refine valW.int ?_) | (refine valW.bool ?_) | (refine valW.unit ?_) | ((first | refine valW.ptr ?_ ?_ ?_ | refine valW.el ?_ ?_ ?_); focus ((try simp only [List.length_cons, List.length_nil, List.take_succ_cons, List.take_zero, List.drop_succ_cons, List.drop_zero, List.cons_append, List.nil_append, List.append_nil, List.map_cons, List.map_nil, List.set_cons_zero, List.set_cons_succ, Nat.reduceAdd, Nat.reduceSub, Nat.reduceMul, splice, AS.setBox, AS.push, AS.pushes, AS.pushOwn, AS.setOwn, AV.cells]); first | done | rfl); focus (first | exact (rfl : _ = 0) | exact (rfl : _ = 1) | exact (rfl : _ = 2) | exact (rfl : _ = 3) | exact (rfl : _ = 4) | exact (rfl : _ = 5) | exact (rfl : _ = 6) | exact (rfl : _ = 7) | exact (rfl : _ = 8) | exact (rfl : _ = 9) | exact (rfl : _ = 10) | exact (rfl : _ = 11) | rfl)) | (refine valW.agg (cs' := [_, _]) rfl ?_) | (refine valW.agg (cs' := [_, _, _, _, _]) rfl ?_) | (refine valW.agg (cs' := [_, _, _, _]) rfl ?_) | (refine valW.agg (cs' := [_]) rfl ?_) | (refine valW.agg (cs' := [_, _, _]) rfl ?_) | (refine valW.agg (cs' := [_, _, _, _, _, _]) rfl ?_) | (refine valW.agg (cs' := [_, _, _, _, _, _, _]) rfl ?_) | (refine valW.agg (cs' := [_, _, _, _, _, _, _, _]) rfl ?_) | (refine valW.agg (cs' := [_, _, _, _, _, _, _, _, _]) rfl ?_) | (refine valW.agg (cs' := [_, _, _, _, _, _, _, _, _, _]) rfl ?_) | (refine valW.agg (cs' := [_, _, _, _, _, _, _, _, _, _, _]) rfl ?_) | (refine valW.agg (cs' := [_, _, _, _, _, _, _, _, _, _, _, _]) rfl ?_) | ((first | refine valW.agg ?_ ?_ | refine valW.sl ?_ ?_ | refine valW.tup ?_ ?_); focus ((try simp only [List.length_cons, List.length_nil, List.take_succ_cons, List.take_zero, List.drop_succ_cons, List.drop_zero, List.cons_append, List.nil_append, List.append_nil, List.map_cons, List.map_nil, List.set_cons_zero, List.set_cons_succ, Nat.reduceAdd, Nat.reduceSub, Nat.reduceMul, splice, AS.setBox, AS.push, AS.pushes, AS.pushOwn, AS.setOwn, AV.cells]); first | done | rfl)) | (refine valW.eq rfl ?_) | fail)
    | (refine stW.id ?_; first | (refine stW.eq (by first | (simp only [List.length_cons, List.length_nil, List.take_succ_cons, List.take_zero, List.drop_succ_cons, List.drop_zero, List.cons_append, List.nil_append, List.append_nil, List.map_cons, List.map_nil, List.set_cons_zero, List.set_cons_succ, Nat.reduceAdd, Nat.reduceSub, Nat.reduceMul, splice, AS.setBox, AS.push, AS.pushes, AS.pushOwn, AS.setOwn, AV.cells]; done) | (simp only [List.length_cons, List.length_nil, List.take_succ_cons, List.take_zero, List.drop_succ_cons, List.drop_zero, List.cons_append, List.nil_append, List.append_nil, List.map_cons, List.map_nil, List.set_cons_zero, List.set_cons_succ, Nat.reduceAdd, Nat.reduceSub, Nat.reduceMul, splice, AS.setBox, AS.push, AS.pushes, AS.pushOwn, AS.setOwn, AV.cells]; rfl) | rfl) ?_) | (refine stW.mk' ?_))
    | (refine RunE.nil ?_)
    | (refine RunD.nil ?_)
    | (refine RunC.seq ?_)
    | (refine RunC.regE ?_)
    | (refine RunC.regD (by kernel_rfl) ?_)
    | (refine RunC.cond ?_)
    | (refine RunC.block ?_)
    | (refine RunC.ret ?_)
    | (refine RunC.exit ?_)
    | (refine RunC.skip ?_)
    | (refine RunC.label ?_)
    | (refine callG.id ?_; first | (refine callG.by (c15) ?_) | (refine callG.by (c16 _ _ _ _ _ _ _ _ _) ?_) | (refine callG.by (c17 _ _ _ _ _) ?_) | (refine callG.by (c19 _ _) ?_) | (refine callG.by (c21 _) ?_) | (refine callG.by (c22 _ _ _ _ _ _) ?_) | fail)
    | (refine ACallH.id ?_; first | (refine ACallH.by (c15) ?_) | (refine ACallH.by (c16 _ _ _ _ _ _ _ _ _) ?_) | (refine ACallH.by (c17 _ _ _ _ _) ?_) | (refine ACallH.by (c19 _ _) ?_) | (refine ACallH.by (c21 _) ?_) | (refine ACallH.by (c22 _ _ _ _ _ _) ?_) | fail)
    | (refine ifH.id ?_; first | (refine ifH_isT (by assumption) ?_) | (refine ifH_isF (by assumption) ?_) | (refine ifH_pos (by assumption) ?_) | (refine ifH_neg (by assumption) ?_) | (refine ifH_isT rfl ?_) | (refine ifH_isF rfl ?_) | (refine ifH_not ?_) | (refine ifH_isT ?_ ?_; focus (simp [h1, h2, h3, h4, h5, e1, e2, e3, m1, m2, m3, m4]; done)) | (refine ifH_isF ?_ ?_; focus (simp [h1, h2, h3, h4, h5, e1, e2, e3, m1, m2, m3, m4]; done)) | fail)
    | (refine someH.id ?_; first | (refine someH_of rfl ?_) | (refine someH_of (by assumption) ?_) | (refine someH_of azero_27 ?_) | (refine someH_of azero_45 ?_) | (refine someH_of azero_23 ?_) | (refine someH_of azero_60 ?_) | (refine someH_of azero_95 ?_) | (refine someH_of azero_63 ?_) | (refine someH_of azero_116 ?_) | (refine someH_of azero_114 ?_) | (refine someH_of azero_137 ?_) | (refine someH_of azero_57 ?_) | (refine someH_of aslc_61 ?_) | (refine someH_of azero_29 ?_) | (refine someH_of aslc_55 ?_) | (refine someH_of aslc_58 ?_) | (refine someH_of aslc_208 ?_) | (refine someH_of azero_160 ?_) | (refine someH_of azero_168 ?_) | (refine someH_of azero_173 ?_) | (refine someH_of azero_175 ?_) | (refine someH_of azero_3 ?_) | (refine someH_of azero_131 ?_) | (refine someH_of azero_25 ?_) | (refine someH_of azero_96 ?_) | (refine someH_of azero_55 ?_) | (refine someH_of azero_81 ?_) | (refine someH_of aslc_81 ?_) | (refine someH_of azero_4 ?_) | (refine someH_of azero_217 ?_) | (refine someH_of azero_129 ?_) | (refine someH_of azero_61 ?_) | (refine someH_of aslc_206 ?_) | (refine someH_of (aggEqw_27 _ _ _ _) ?_) | (refine someH_of (aggEqw_45 _ _ _ _ _ _ _ _) ?_) | (refine someH_of (aggEqw_116 _ _ _ _) ?_) | (refine someH_of (aggEqw_23 _ _ _ _) ?_) | fail)
    | (refine And.intro rfl ?_)
    | (refine And.intro (by assumption) ?_)
    | (refine And.intro (by decide) ?_)
    | fail
  all_goals (exact FinW.of (bool _) rfl (by simp [h1, h2, h3, h4, h5, e1, e2, e3, m1, m2, m3, m4]))
end Go.Proofs.Ytfjeopaaplnoaaa
