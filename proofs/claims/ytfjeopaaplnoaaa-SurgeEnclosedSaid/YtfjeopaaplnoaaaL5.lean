/-
  The law SurgeEnclosed answers true at every input, and its arguments read afterwards as they did before. No condition.
-/
import Derived.Test.YtfjeopaaplnoaaaC8
import Derived.Test.YtfjeopaaplnoaaaAvJn
namespace Go.Proofs.Ytfjeopaaplnoaaa
open Go Go.RowKit Av
set_option maxRecDepth 100000
set_option maxHeartbeats 4000000
set_option linter.unusedSimpArgs false
set_option linter.unusedVariables false

theorem c5n (ine area flo fhi thr : Int) (x0 x1 x2 x3 z q : Int) : DCall Try.prog 5 [.agg [int ine, int area, int flo, int fhi, int thr], .agg [int x0, int x1, int x2, int x3, int z, int q], .sc (.slice none 0 0)] (bool true) := by
  refine DCall.fnF hm Try.func5 rfl Try.ntmps5 Try.results5 (by kernel_rfl) (by kernel_rfl) (by kernel_rfl) rfl rfl (Nat.le_of_ble_eq_true rfl) ?_
  by_cases h1 : rulesE ine area flo fhi thr = 0
  case neg =>
    repeat' (conv => whnf); first
      | (refine RunE.cons ?_)
      | (refine RunD.cons ?_)
      | (refine valW.id ?_; first | (refine valW.int ?_) | (refine valW.bool ?_) | (refine valW.unit ?_) | ((first | refine valW.ptr ?_ ?_ ?_ | refine valW.el ?_ ?_ ?_); focus ((try simp only [List.length_cons, List.length_nil, List.take_succ_cons, List.take_zero, List.drop_succ_cons, List.drop_zero, List.cons_append, List.nil_append, List.append_nil, List.map_cons, List.map_nil, List.set_cons_zero, List.set_cons_succ, Nat.reduceAdd, Nat.reduceSub, Nat.reduceMul, splice, AS.setBox, AS.push, AS.pushes, AS.pushOwn, AS.setOwn, AV.cells]); first | done | rfl); focus (first | exact (rfl : _ = 0) | exact (rfl : _ = 1) | exact (rfl : _ = 2) | exact (rfl : _ = 3) | exact (rfl : _ = 4) | exact (rfl : _ = 5) | exact (rfl : _ = 6) | exact (rfl : _ = 7) | exact (rfl : _ = 8) | exact (rfl : _ = 9) | exact (rfl : _ = 10) | exact (rfl : _ = 11) | rfl)) | (refine valW.agg (cs' := [_, _]) rfl ?_) | (refine valW.agg (cs' := [_, _, _, _, _]) rfl ?_) | (refine valW.agg (cs' := [_, _, _, _]) rfl ?_) | (refine valW.agg (cs' := [_]) rfl ?_) | (refine valW.agg (cs' := [_, _, _]) rfl ?_) | (refine valW.agg (cs' := [_, _, _, _, _, _]) rfl ?_) | (refine valW.agg (cs' := [_, _, _, _, _, _, _]) rfl ?_) | (refine valW.agg (cs' := [_, _, _, _, _, _, _, _]) rfl ?_) | (refine valW.agg (cs' := [_, _, _, _, _, _, _, _, _]) rfl ?_) | (refine valW.agg (cs' := [_, _, _, _, _, _, _, _, _, _]) rfl ?_) | (refine valW.agg (cs' := [_, _, _, _, _, _, _, _, _, _, _]) rfl ?_) | (refine valW.agg (cs' := [_, _, _, _, _, _, _, _, _, _, _, _]) rfl ?_) | ((first | refine valW.agg ?_ ?_ | refine valW.sl ?_ ?_ | refine valW.tup ?_ ?_); focus ((try simp only [List.length_cons, List.length_nil, List.take_succ_cons, List.take_zero, List.drop_succ_cons, List.drop_zero, List.cons_append, List.nil_append, List.append_nil, List.map_cons, List.map_nil, List.set_cons_zero, List.set_cons_succ, Nat.reduceAdd, Nat.reduceSub, Nat.reduceMul, splice, AS.setBox, AS.push, AS.pushes, AS.pushOwn, AS.setOwn, AV.cells]); first | done | rfl)) | (refine valW.eq rfl ?_) | fail)
      | (refine stW.id ?_; first | (refine stW.eq (by first | (simp only [List.length_cons, List.length_nil, List.take_succ_cons, List.take_zero, List.drop_succ_cons, List.drop_zero, List.cons_append, List.nil_append, List.append_nil, List.map_cons, List.map_nil, List.set_cons_zero, List.set_cons_succ, Nat.reduceAdd, Nat.reduceSub, Nat.reduceMul, splice, AS.setBox, AS.push, AS.pushes, AS.pushOwn, AS.setOwn, AV.cells]; done) | (simp only [List.length_cons, List.length_nil, List.take_succ_cons, List.take_zero, List.drop_succ_cons, List.drop_zero, List.cons_append, List.nil_append, List.append_nil, List.map_cons, List.map_nil, List.set_cons_zero, List.set_cons_succ, Nat.reduceAdd, Nat.reduceSub, Nat.reduceMul, splice, AS.setBox, AS.push, AS.pushes, AS.pushOwn, AS.setOwn, AV.cells]; rfl) | rfl) ?_) | (refine stW.mk' ?_))
      | (refine RunE.nil ?_)
      | (refine RunD.nil ?_)
      | (refine RunC.seq ?_)
      | (refine RunC.regE ?_)
      | (refine RunC.regL (id := 3) (ms := [0, 1, 0, 4, 0, 0, 51, 127]) (by kernel_rfl) ?_)
      | (refine RunC.regL (id := 6) (ms := [0, 1, 3, 0, 8, 24, 0, 64, 248, 511, 0, 1024, 3072, 0, 8192, 24576, 0, 65536, 253952, 523264, 197631, 1246207, 4194303, 8388607]) (by kernel_rfl) ?_)
      | (refine RunC.regD (by kernel_rfl) ?_)
      | (refine RunL.cons ?_)
      | (refine RunL.nil ?_)
      | (refine LateH.by (by (repeat' (conv => whnf); first | exact trivial | exact bitW.skip rfl | exact bitW.use rfl | (refine ⟨?_, ?_⟩))) ?_)
      | (refine RunC.cond ?_)
      | (refine RunC.block ?_)
      | (refine RunC.ret ?_)
      | (refine RunC.exit ?_)
      | (refine RunC.skip ?_)
      | (refine RunC.label ?_)
      | (refine RunC.loop (by kernel_rfl) (by kernel_rfl) ?_)
      | (refine AWlF.step ?_)
      | (refine callG.id ?_; first | (refine callG.by (c15) ?_) | (refine callG.by (c17 _ _ _ _ _) ?_) | (refine callG.by (c24 _ _ _ _) ?_) | (refine callG.by (c19 _ _) ?_) | (refine callG.by (c21 _) ?_) | (refine callG.by (c22 _ _ _ _ _ _) ?_) | (refine callG.by (c26 _ _ _ _ _ _) ?_) | (refine callG.by (c27 _ _ _) ?_) | fail)
      | (refine ACallH.id ?_; first | (refine ACallH.by (c15) ?_) | (refine ACallH.by (c17 _ _ _ _ _) ?_) | (refine ACallH.by (c24 _ _ _ _) ?_) | (refine ACallH.by (c19 _ _) ?_) | (refine ACallH.by (c21 _) ?_) | (refine ACallH.by (c22 _ _ _ _ _ _) ?_) | (refine ACallH.by (c26 _ _ _ _ _ _) ?_) | (refine ACallH.by (c27 _ _ _) ?_) | fail)
      | (refine ifH.id ?_; first | (refine ifH_isT (by assumption) ?_) | (refine ifH_isF (by assumption) ?_) | (refine ifH_pos (by assumption) ?_) | (refine ifH_neg (by assumption) ?_) | (refine ifH_isT rfl ?_) | (refine ifH_isF rfl ?_) | (refine ifH_not ?_) | (refine ifH_isT ?_ ?_; focus (simp [h1]; done)) | (refine ifH_isF ?_ ?_; focus (simp [h1]; done)) | fail)
      | (refine someH.id ?_; first | (refine someH_of rfl ?_) | (refine someH_of (by assumption) ?_) | (refine someH_of azero_27 ?_) | (refine someH_of azero_45 ?_) | (refine someH_of azero_23 ?_) | (refine someH_of azero_60 ?_) | (refine someH_of azero_95 ?_) | (refine someH_of azero_63 ?_) | (refine someH_of azero_116 ?_) | (refine someH_of azero_114 ?_) | (refine someH_of azero_137 ?_) | (refine someH_of azero_57 ?_) | (refine someH_of aslc_61 ?_) | (refine someH_of azero_29 ?_) | (refine someH_of aslc_55 ?_) | (refine someH_of aslc_58 ?_) | (refine someH_of aslc_208 ?_) | (refine someH_of azero_160 ?_) | (refine someH_of azero_168 ?_) | (refine someH_of azero_173 ?_) | (refine someH_of azero_175 ?_) | (refine someH_of azero_3 ?_) | (refine someH_of azero_131 ?_) | (refine someH_of azero_25 ?_) | (refine someH_of azero_96 ?_) | (refine someH_of azero_55 ?_) | (refine someH_of azero_81 ?_) | (refine someH_of aslc_81 ?_) | (refine someH_of azero_4 ?_) | (refine someH_of azero_217 ?_) | (refine someH_of azero_129 ?_) | (refine someH_of azero_61 ?_) | (refine someH_of aslc_206 ?_) | (refine someH_of (aggEqw_27 _ _ _ _) ?_) | (refine someH_of (aggEqw_45 _ _ _ _ _ _ _ _) ?_) | (refine someH_of (aggEqw_116 _ _ _ _) ?_) | (refine someH_of (aggEqw_23 _ _ _ _) ?_) | fail)
      | (refine And.intro rfl ?_)
      | (refine And.intro (by assumption) ?_)
      | (refine And.intro (by decide) ?_)
      | fail
    all_goals (exact FinW.of (bool _) rfl (by simp [h1]))
  by_cases h2 : boxE x0 x1 x2 x3 = 0
  case neg =>
    repeat' (conv => whnf); first
      | (refine RunE.cons ?_)
      | (refine RunD.cons ?_)
      | (refine valW.id ?_; first | (refine valW.int ?_) | (refine valW.bool ?_) | (refine valW.unit ?_) | ((first | refine valW.ptr ?_ ?_ ?_ | refine valW.el ?_ ?_ ?_); focus ((try simp only [List.length_cons, List.length_nil, List.take_succ_cons, List.take_zero, List.drop_succ_cons, List.drop_zero, List.cons_append, List.nil_append, List.append_nil, List.map_cons, List.map_nil, List.set_cons_zero, List.set_cons_succ, Nat.reduceAdd, Nat.reduceSub, Nat.reduceMul, splice, AS.setBox, AS.push, AS.pushes, AS.pushOwn, AS.setOwn, AV.cells]); first | done | rfl); focus (first | exact (rfl : _ = 0) | exact (rfl : _ = 1) | exact (rfl : _ = 2) | exact (rfl : _ = 3) | exact (rfl : _ = 4) | exact (rfl : _ = 5) | exact (rfl : _ = 6) | exact (rfl : _ = 7) | exact (rfl : _ = 8) | exact (rfl : _ = 9) | exact (rfl : _ = 10) | exact (rfl : _ = 11) | rfl)) | (refine valW.agg (cs' := [_, _]) rfl ?_) | (refine valW.agg (cs' := [_, _, _, _, _]) rfl ?_) | (refine valW.agg (cs' := [_, _, _, _]) rfl ?_) | (refine valW.agg (cs' := [_]) rfl ?_) | (refine valW.agg (cs' := [_, _, _]) rfl ?_) | (refine valW.agg (cs' := [_, _, _, _, _, _]) rfl ?_) | (refine valW.agg (cs' := [_, _, _, _, _, _, _]) rfl ?_) | (refine valW.agg (cs' := [_, _, _, _, _, _, _, _]) rfl ?_) | (refine valW.agg (cs' := [_, _, _, _, _, _, _, _, _]) rfl ?_) | (refine valW.agg (cs' := [_, _, _, _, _, _, _, _, _, _]) rfl ?_) | (refine valW.agg (cs' := [_, _, _, _, _, _, _, _, _, _, _]) rfl ?_) | (refine valW.agg (cs' := [_, _, _, _, _, _, _, _, _, _, _, _]) rfl ?_) | ((first | refine valW.agg ?_ ?_ | refine valW.sl ?_ ?_ | refine valW.tup ?_ ?_); focus ((try simp only [List.length_cons, List.length_nil, List.take_succ_cons, List.take_zero, List.drop_succ_cons, List.drop_zero, List.cons_append, List.nil_append, List.append_nil, List.map_cons, List.map_nil, List.set_cons_zero, List.set_cons_succ, Nat.reduceAdd, Nat.reduceSub, Nat.reduceMul, splice, AS.setBox, AS.push, AS.pushes, AS.pushOwn, AS.setOwn, AV.cells]); first | done | rfl)) | (refine valW.eq rfl ?_) | fail)
      | (refine stW.id ?_; first | (refine stW.eq (by first | (simp only [List.length_cons, List.length_nil, List.take_succ_cons, List.take_zero, List.drop_succ_cons, List.drop_zero, List.cons_append, List.nil_append, List.append_nil, List.map_cons, List.map_nil, List.set_cons_zero, List.set_cons_succ, Nat.reduceAdd, Nat.reduceSub, Nat.reduceMul, splice, AS.setBox, AS.push, AS.pushes, AS.pushOwn, AS.setOwn, AV.cells]; done) | (simp only [List.length_cons, List.length_nil, List.take_succ_cons, List.take_zero, List.drop_succ_cons, List.drop_zero, List.cons_append, List.nil_append, List.append_nil, List.map_cons, List.map_nil, List.set_cons_zero, List.set_cons_succ, Nat.reduceAdd, Nat.reduceSub, Nat.reduceMul, splice, AS.setBox, AS.push, AS.pushes, AS.pushOwn, AS.setOwn, AV.cells]; rfl) | rfl) ?_) | (refine stW.mk' ?_))
      | (refine RunE.nil ?_)
      | (refine RunD.nil ?_)
      | (refine RunC.seq ?_)
      | (refine RunC.regE ?_)
      | (refine RunC.regL (id := 3) (ms := [0, 1, 0, 4, 0, 0, 51, 127]) (by kernel_rfl) ?_)
      | (refine RunC.regL (id := 6) (ms := [0, 1, 3, 0, 8, 24, 0, 64, 248, 511, 0, 1024, 3072, 0, 8192, 24576, 0, 65536, 253952, 523264, 197631, 1246207, 4194303, 8388607]) (by kernel_rfl) ?_)
      | (refine RunC.regD (by kernel_rfl) ?_)
      | (refine RunL.cons ?_)
      | (refine RunL.nil ?_)
      | (refine LateH.by (by (repeat' (conv => whnf); first | exact trivial | exact bitW.skip rfl | exact bitW.use rfl | (refine ⟨?_, ?_⟩))) ?_)
      | (refine RunC.cond ?_)
      | (refine RunC.block ?_)
      | (refine RunC.ret ?_)
      | (refine RunC.exit ?_)
      | (refine RunC.skip ?_)
      | (refine RunC.label ?_)
      | (refine RunC.loop (by kernel_rfl) (by kernel_rfl) ?_)
      | (refine AWlF.step ?_)
      | (refine callG.id ?_; first | (refine callG.by (c15) ?_) | (refine callG.by (c17 _ _ _ _ _) ?_) | (refine callG.by (c24 _ _ _ _) ?_) | (refine callG.by (c19 _ _) ?_) | (refine callG.by (c21 _) ?_) | (refine callG.by (c22 _ _ _ _ _ _) ?_) | (refine callG.by (c26 _ _ _ _ _ _) ?_) | (refine callG.by (c27 _ _ _) ?_) | fail)
      | (refine ACallH.id ?_; first | (refine ACallH.by (c15) ?_) | (refine ACallH.by (c17 _ _ _ _ _) ?_) | (refine ACallH.by (c24 _ _ _ _) ?_) | (refine ACallH.by (c19 _ _) ?_) | (refine ACallH.by (c21 _) ?_) | (refine ACallH.by (c22 _ _ _ _ _ _) ?_) | (refine ACallH.by (c26 _ _ _ _ _ _) ?_) | (refine ACallH.by (c27 _ _ _) ?_) | fail)
      | (refine ifH.id ?_; first | (refine ifH_isT (by assumption) ?_) | (refine ifH_isF (by assumption) ?_) | (refine ifH_pos (by assumption) ?_) | (refine ifH_neg (by assumption) ?_) | (refine ifH_isT rfl ?_) | (refine ifH_isF rfl ?_) | (refine ifH_not ?_) | (refine ifH_isT ?_ ?_; focus (simp [h1, h2]; done)) | (refine ifH_isF ?_ ?_; focus (simp [h1, h2]; done)) | fail)
      | (refine someH.id ?_; first | (refine someH_of rfl ?_) | (refine someH_of (by assumption) ?_) | (refine someH_of azero_27 ?_) | (refine someH_of azero_45 ?_) | (refine someH_of azero_23 ?_) | (refine someH_of azero_60 ?_) | (refine someH_of azero_95 ?_) | (refine someH_of azero_63 ?_) | (refine someH_of azero_116 ?_) | (refine someH_of azero_114 ?_) | (refine someH_of azero_137 ?_) | (refine someH_of azero_57 ?_) | (refine someH_of aslc_61 ?_) | (refine someH_of azero_29 ?_) | (refine someH_of aslc_55 ?_) | (refine someH_of aslc_58 ?_) | (refine someH_of aslc_208 ?_) | (refine someH_of azero_160 ?_) | (refine someH_of azero_168 ?_) | (refine someH_of azero_173 ?_) | (refine someH_of azero_175 ?_) | (refine someH_of azero_3 ?_) | (refine someH_of azero_131 ?_) | (refine someH_of azero_25 ?_) | (refine someH_of azero_96 ?_) | (refine someH_of azero_55 ?_) | (refine someH_of azero_81 ?_) | (refine someH_of aslc_81 ?_) | (refine someH_of azero_4 ?_) | (refine someH_of azero_217 ?_) | (refine someH_of azero_129 ?_) | (refine someH_of azero_61 ?_) | (refine someH_of aslc_206 ?_) | (refine someH_of (aggEqw_27 _ _ _ _) ?_) | (refine someH_of (aggEqw_45 _ _ _ _ _ _ _ _) ?_) | (refine someH_of (aggEqw_116 _ _ _ _) ?_) | (refine someH_of (aggEqw_23 _ _ _ _) ?_) | fail)
      | (refine And.intro rfl ?_)
      | (refine And.intro (by assumption) ?_)
      | (refine And.intro (by decide) ?_)
      | fail
    all_goals (exact FinW.of (bool _) rfl (by simp [h1, h2]))
  repeat' (conv => whnf); first
    | (refine RunE.cons ?_)
    | (refine RunD.cons ?_)
    | (refine valW.id ?_; first | (refine valW.int ?_) | (refine valW.bool ?_) | (refine valW.unit ?_) | ((first | refine valW.ptr ?_ ?_ ?_ | refine valW.el ?_ ?_ ?_); focus ((try simp only [List.length_cons, List.length_nil, List.take_succ_cons, List.take_zero, List.drop_succ_cons, List.drop_zero, List.cons_append, List.nil_append, List.append_nil, List.map_cons, List.map_nil, List.set_cons_zero, List.set_cons_succ, Nat.reduceAdd, Nat.reduceSub, Nat.reduceMul, splice, AS.setBox, AS.push, AS.pushes, AS.pushOwn, AS.setOwn, AV.cells]); first | done | rfl); focus (first | exact (rfl : _ = 0) | exact (rfl : _ = 1) | exact (rfl : _ = 2) | exact (rfl : _ = 3) | exact (rfl : _ = 4) | exact (rfl : _ = 5) | exact (rfl : _ = 6) | exact (rfl : _ = 7) | exact (rfl : _ = 8) | exact (rfl : _ = 9) | exact (rfl : _ = 10) | exact (rfl : _ = 11) | rfl)) | (refine valW.agg (cs' := [_, _]) rfl ?_) | (refine valW.agg (cs' := [_, _, _, _, _]) rfl ?_) | (refine valW.agg (cs' := [_, _, _, _]) rfl ?_) | (refine valW.agg (cs' := [_]) rfl ?_) | (refine valW.agg (cs' := [_, _, _]) rfl ?_) | (refine valW.agg (cs' := [_, _, _, _, _, _]) rfl ?_) | (refine valW.agg (cs' := [_, _, _, _, _, _, _]) rfl ?_) | (refine valW.agg (cs' := [_, _, _, _, _, _, _, _]) rfl ?_) | (refine valW.agg (cs' := [_, _, _, _, _, _, _, _, _]) rfl ?_) | (refine valW.agg (cs' := [_, _, _, _, _, _, _, _, _, _]) rfl ?_) | (refine valW.agg (cs' := [_, _, _, _, _, _, _, _, _, _, _]) rfl ?_) | (refine valW.agg (cs' := [_, _, _, _, _, _, _, _, _, _, _, _]) rfl ?_) | ((first | refine valW.agg ?_ ?_ | refine valW.sl ?_ ?_ | refine valW.tup ?_ ?_); focus ((try simp only [List.length_cons, List.length_nil, List.take_succ_cons, List.take_zero, List.drop_succ_cons, List.drop_zero, List.cons_append, List.nil_append, List.append_nil, List.map_cons, List.map_nil, List.set_cons_zero, List.set_cons_succ, Nat.reduceAdd, Nat.reduceSub, Nat.reduceMul, splice, AS.setBox, AS.push, AS.pushes, AS.pushOwn, AS.setOwn, AV.cells]); first | done | rfl)) | (refine valW.eq rfl ?_) | fail)
    | (refine stW.id ?_; first | (refine stW.eq (by first | (simp only [List.length_cons, List.length_nil, List.take_succ_cons, List.take_zero, List.drop_succ_cons, List.drop_zero, List.cons_append, List.nil_append, List.append_nil, List.map_cons, List.map_nil, List.set_cons_zero, List.set_cons_succ, Nat.reduceAdd, Nat.reduceSub, Nat.reduceMul, splice, AS.setBox, AS.push, AS.pushes, AS.pushOwn, AS.setOwn, AV.cells]; done) | (simp only [List.length_cons, List.length_nil, List.take_succ_cons, List.take_zero, List.drop_succ_cons, List.drop_zero, List.cons_append, List.nil_append, List.append_nil, List.map_cons, List.map_nil, List.set_cons_zero, List.set_cons_succ, Nat.reduceAdd, Nat.reduceSub, Nat.reduceMul, splice, AS.setBox, AS.push, AS.pushes, AS.pushOwn, AS.setOwn, AV.cells]; rfl) | rfl) ?_) | (refine stW.mk' ?_))
    | (refine RunE.nil ?_)
    | (refine RunD.nil ?_)
    | (refine RunC.seq ?_)
    | (refine RunC.regE ?_)
    | (refine RunC.regL (id := 3) (ms := [0, 1, 0, 4, 0, 0, 51, 127]) (by kernel_rfl) ?_)
    | (refine RunC.regL (id := 6) (ms := [0, 1, 3, 0, 8, 24, 0, 64, 248, 511, 0, 1024, 3072, 0, 8192, 24576, 0, 65536, 253952, 523264, 197631, 1246207, 4194303, 8388607]) (by kernel_rfl) ?_)
    | (refine RunC.regD (by kernel_rfl) ?_)
    | (refine RunL.cons ?_)
    | (refine RunL.nil ?_)
    | (refine LateH.by (by (repeat' (conv => whnf); first | exact trivial | exact bitW.skip rfl | exact bitW.use rfl | (refine ⟨?_, ?_⟩))) ?_)
    | (refine RunC.cond ?_)
    | (refine RunC.block ?_)
    | (refine RunC.ret ?_)
    | (refine RunC.exit ?_)
    | (refine RunC.skip ?_)
    | (refine RunC.label ?_)
    | (refine RunC.loop (by kernel_rfl) (by kernel_rfl) ?_)
    | (refine AWlF.step ?_)
    | (refine callG.id ?_; first | (refine callG.by (c15) ?_) | (refine callG.by (c17 _ _ _ _ _) ?_) | (refine callG.by (c24 _ _ _ _) ?_) | (refine callG.by (c19 _ _) ?_) | (refine callG.by (c21 _) ?_) | (refine callG.by (c22 _ _ _ _ _ _) ?_) | (refine callG.by (c26 _ _ _ _ _ _) ?_) | (refine callG.by (c27 _ _ _) ?_) | fail)
    | (refine ACallH.id ?_; first | (refine ACallH.by (c15) ?_) | (refine ACallH.by (c17 _ _ _ _ _) ?_) | (refine ACallH.by (c24 _ _ _ _) ?_) | (refine ACallH.by (c19 _ _) ?_) | (refine ACallH.by (c21 _) ?_) | (refine ACallH.by (c22 _ _ _ _ _ _) ?_) | (refine ACallH.by (c26 _ _ _ _ _ _) ?_) | (refine ACallH.by (c27 _ _ _) ?_) | fail)
    | (refine ifH.id ?_; first | (refine ifH_isT (by assumption) ?_) | (refine ifH_isF (by assumption) ?_) | (refine ifH_pos (by assumption) ?_) | (refine ifH_neg (by assumption) ?_) | (refine ifH_isT rfl ?_) | (refine ifH_isF rfl ?_) | (refine ifH_not ?_) | (refine ifH_isT ?_ ?_; focus (simp [h1, h2]; done)) | (refine ifH_isF ?_ ?_; focus (simp [h1, h2]; done)) | fail)
    | (refine someH.id ?_; first | (refine someH_of rfl ?_) | (refine someH_of (by assumption) ?_) | (refine someH_of azero_27 ?_) | (refine someH_of azero_45 ?_) | (refine someH_of azero_23 ?_) | (refine someH_of azero_60 ?_) | (refine someH_of azero_95 ?_) | (refine someH_of azero_63 ?_) | (refine someH_of azero_116 ?_) | (refine someH_of azero_114 ?_) | (refine someH_of azero_137 ?_) | (refine someH_of azero_57 ?_) | (refine someH_of aslc_61 ?_) | (refine someH_of azero_29 ?_) | (refine someH_of aslc_55 ?_) | (refine someH_of aslc_58 ?_) | (refine someH_of aslc_208 ?_) | (refine someH_of azero_160 ?_) | (refine someH_of azero_168 ?_) | (refine someH_of azero_173 ?_) | (refine someH_of azero_175 ?_) | (refine someH_of azero_3 ?_) | (refine someH_of azero_131 ?_) | (refine someH_of azero_25 ?_) | (refine someH_of azero_96 ?_) | (refine someH_of azero_55 ?_) | (refine someH_of azero_81 ?_) | (refine someH_of aslc_81 ?_) | (refine someH_of azero_4 ?_) | (refine someH_of azero_217 ?_) | (refine someH_of azero_129 ?_) | (refine someH_of azero_61 ?_) | (refine someH_of aslc_206 ?_) | (refine someH_of (aggEqw_27 _ _ _ _) ?_) | (refine someH_of (aggEqw_45 _ _ _ _ _ _ _ _) ?_) | (refine someH_of (aggEqw_116 _ _ _ _) ?_) | (refine someH_of (aggEqw_23 _ _ _ _) ?_) | fail)
    | (refine And.intro rfl ?_)
    | (refine And.intro (by assumption) ?_)
    | (refine And.intro (by decide) ?_)
    | fail
  all_goals (exact FinW.of (bool _) rfl (by simp [h1, h2]))
theorem surgeEnclosed_own : ownKnob Try.prog.godebug = none := by kernel_rfl
theorem surgeEnclosed_laidOut : laidOutB Try.prog = true := by kernel_rfl
theorem surgeEnclosed_par : Try.f5.params.toList.all (fun T => parOk Try.prog T (parKs Try.prog T)) = true := by kernel_rfl
theorem flatAs_cons {k : FK} {ks : List FK} {cs : List AV} (h : FlatAs (k :: ks) cs) : ∃ c cs', cs = c :: cs' ∧ FlatA k c ∧ FlatAs ks cs' := by
  cases cs with
  | nil => exact h.elim
  | cons c cs => exact ⟨c, cs, rfl, h.1, h.2⟩
theorem flatAs_nil {cs : List AV} (h : FlatAs [] cs) : cs = [] := by
  cases cs with
  | nil => rfl
  | cons a rest => exact h.elim
theorem flat_stp {xs : List AV} (h : ∀ x ∈ xs, ∃ ys, x = wrapA true ys ∧ FlatAs [.int .i64, .int .i64] ys) : ∃ ls : List (Int × Int), xs = ls.map stp := by
  induction xs with
  | nil => exact ⟨[], rfl⟩
  | cons x xs ih =>
    obtain ⟨ls, rfl⟩ := ih (fun y hy => h y (List.mem_cons_of_mem _ hy))
    obtain ⟨ys, rfl, hf⟩ := h x (List.mem_cons_self ..)
    obtain ⟨a, y1, rfl, ⟨m, rfl, _⟩, hf1⟩ := flatAs_cons hf
    obtain ⟨b, y2, rfl, ⟨n, rfl, _⟩, hf2⟩ := flatAs_cons hf1
    obtain rfl := flatAs_nil hf2
    exact ⟨(m, n) :: ls, rfl⟩
theorem surgeEnclosed_k25 : parKs Try.prog 25 = [.f (.int .i64), .f (.int .i64), .f (.int .i64), .f (.int .i64), .f (.int .i64)] := by kernel_rfl
theorem surgeEnclosed_k47 : parKs Try.prog 47 = [.f (.int .i64), .f (.int .i64), .f (.int .i64), .f (.int .i64), .f (.int .i64), .f (.int .i64)] := by kernel_rfl
theorem surgeEnclosed_k48 : parKs Try.prog 48 = [.sl true [.int .i64, .int .i64]] := by kernel_rfl
theorem surgeEnclosed_g : isAggT Try.prog 25 = true ∧ isAggT Try.prog 47 = true ∧ isAggT Try.prog 48 = false := ⟨by kernel_rfl, by kernel_rfl, by kernel_rfl⟩
theorem surgeEnclosed_all (avs : List AV) (h : ArgsA Try.prog Try.f5.params.toList avs) : DCall Try.prog 5 avs (.sc (.bool true)) := by
  rw [Try.params5] at h
  obtain ⟨r, avs1, rfl, hr, h1⟩ := argsA_cons h
  obtain ⟨s, avs2, rfl, hs, h2⟩ := argsA_cons h1
  obtain ⟨x, avs3, rfl, hx, h3⟩ := argsA_cons h2
  obtain rfl := argsA_nil h3
  rw [surgeEnclosed_k25] at hr
  rw [surgeEnclosed_k47] at hs
  rw [surgeEnclosed_k48] at hx
  rw [surgeEnclosed_g.1, surgeEnclosed_g.2.1, surgeEnclosed_g.2.2]
  obtain ⟨c, x1, rfl, hc, hx1⟩ := leafAs_cons hx
  obtain rfl := leafAs_nil hx1
  obtain ⟨c_, r1, rfl, q_, hr1⟩ := leafAs_cons hr
  obtain ⟨ine, rfl, b_ine⟩ := leafA_int q_
  obtain ⟨c_, r2, rfl, q_, hr2⟩ := leafAs_cons hr1
  obtain ⟨area, rfl, b_area⟩ := leafA_int q_
  obtain ⟨c_, r3, rfl, q_, hr3⟩ := leafAs_cons hr2
  obtain ⟨flo, rfl, b_flo⟩ := leafA_int q_
  obtain ⟨c_, r4, rfl, q_, hr4⟩ := leafAs_cons hr3
  obtain ⟨fhi, rfl, b_fhi⟩ := leafA_int q_
  obtain ⟨c_, r5, rfl, q_, hr5⟩ := leafAs_cons hr4
  obtain ⟨thr, rfl, b_thr⟩ := leafA_int q_
  obtain rfl := leafAs_nil hr5
  obtain ⟨c_, s1, rfl, q_, hs1⟩ := leafAs_cons hs
  obtain ⟨x0, rfl, b_x0⟩ := leafA_int q_
  obtain ⟨c_, s2, rfl, q_, hs2⟩ := leafAs_cons hs1
  obtain ⟨x1, rfl, b_x1⟩ := leafA_int q_
  obtain ⟨c_, s3, rfl, q_, hs3⟩ := leafAs_cons hs2
  obtain ⟨x2, rfl, b_x2⟩ := leafA_int q_
  obtain ⟨c_, s4, rfl, q_, hs4⟩ := leafAs_cons hs3
  obtain ⟨x3, rfl, b_x3⟩ := leafA_int q_
  obtain ⟨c_, s5, rfl, q_, hs5⟩ := leafAs_cons hs4
  obtain ⟨z, rfl, b_z⟩ := leafA_int q_
  obtain ⟨c_, s6, rfl, q_, hs6⟩ := leafAs_cons hs5
  obtain ⟨q, rfl, b_q⟩ := leafA_int q_
  obtain rfl := leafAs_nil hs6
  rcases hc with rfl | ⟨xs, rfl, hl, hxs⟩
  · exact c5n ine area flo fhi thr x0 x1 x2 x3 z q
  · obtain ⟨ls, rfl⟩ := flat_stp hxs
    exact c5 ine area flo fhi thr x0 x1 x2 x3 z q ls

theorem surgeEnclosed_lifted (os : Os) (started : os.Started) (H : Type) (enc : TypeId × Value → H) :
    ReturnsInHanded {} Try.checked os 5 .any (Rows.surgeEnclosedSpec.pre6 enc Try.prog Try.f5 Rows.surgeEnclosedRow.domain false) (Rows.surgeEnclosedSpec.post enc Try.prog Try.f5 false true false false) := by
  refine returnsInHanded_of_change_sized (C := Try.checked) surgeEnclosed_own started (by kernel_rfl) Try.func5
    (ChangeSpec.witness6 (enc := enc) (C := Try.checked) false ⟨#[], #[.agg #[.int .i64 0, .int .i64 0, .int .i64 0, .int .i64 0, .int .i64 0], .agg #[.int .i64 0, .int .i64 0, .int .i64 0, .int .i64 0, .int .i64 0, .int .i64 0], .slice none 0 0], []⟩ 8 (by kernel_rfl) (by kernel_rfl) (by kernel_rfl) (by kernel_rfl)) ?_
  intro W base args ds gs before hval0 hW hcnd hsz0 _
  have hp : Try.f5.params.size = 3 := by rw [Try.params5]; rfl
  refine law_calls (bT := 4) surgeEnclosed_laidOut rfl (by kernel_rfl) Try.underlying4 (List.all_eq_true.1 surgeEnclosed_par) (fun ds hds => ?_) surgeEnclosed_all hval0 hW
  rw [hp] at hds
  match ds, hds with
  | [d1, d2, d3], _ => rfl
theorem surgeEnclosed_holds : Rows.SurgeEnclosedSaid :=
  OpenClaim.holds_of_wide 5 Try.f5 rfl rfl rfl rfl rfl rfl rfl ⟨rfl, rfl, rfl, rfl, rfl⟩ rfl rfl rfl rfl rfl (by kernel_rfl) Try.func5 (by kernel_rfl)
    (of_decide_eq_true (by kernel_rfl)) (by unfold Func.isWrapper; first | (rw [if_pos (by decide +kernel)]; kernel_rfl) | (rw [if_neg (by decide +kernel)]; exact ⟨rfl, rfl⟩))
    (fun os started H enc _ => surgeEnclosed_lifted os started H enc)
#print axioms surgeEnclosed_holds
end Go.Proofs.Ytfjeopaaplnoaaa
