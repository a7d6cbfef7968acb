/-
  WHAT THE FUNCTIONS RETURN (3): boxes, and the step of a box.
-/
import Derived.Test.YtfjeopaaplnoaaaPl
namespace Go.Proofs.Ytfjeopaaplnoaaa
open Go Go.RowKit Av
set_option maxRecDepth 100000
set_option maxHeartbeats 4000000
set_option linter.unusedSimpArgs false

def rangeE (lo hi m : Int) : Int := firstL [un (wi lo (-m) m && wi hi (-m) m) 2, un (decide (lo ≤ hi)) 9]
def boxE (llo lhi qlo qhi : Int) : Int := firstL [un (wi llo (-100000) 100000 && wi lhi (-100000) 100000) 2, un (decide (llo ≤ lhi)) 9, un (wi qlo (-1000) 1000 && wi qhi (-1000) 1000) 2, un (decide (qlo ≤ qhi)) 9]
def inBox (llo lhi qlo qhi lvl flow : Int) : Bool := wi lvl llo lhi && wi flow qlo qhi
theorem neg1 : IntKind.i64.wrap (0 - 100000) = -100000 := by decide
theorem neg2 : IntKind.i64.wrap (0 - 1000) = -1000 := by decide
theorem boxE_zero {llo lhi qlo qhi : Int} : boxE llo lhi qlo qhi = 0 ↔ (-100000 ≤ llo ∧ llo ≤ lhi ∧ lhi ≤ 100000) ∧ (-1000 ≤ qlo ∧ qlo ≤ qhi ∧ qhi ≤ 1000) := by
  rw [boxE, firstL_zero]
  simp only [List.mem_cons, List.not_mem_nil, or_false, forall_eq_or_imp, forall_eq, un_zero (show (2 : Int) ≠ 0 by decide), un_zero (show (9 : Int) ≠ 0 by decide), Bool.and_eq_true, wi_true, decide_eq_true_eq]
  omega

theorem c97a (lo hi : Int) : DCall Try.prog 97 [.agg [int lo, int hi], int 100000] (int (rangeE lo hi 100000)) := by
  refine DCall.fnF hm Try.func97 rfl Try.ntmps97 Try.results97 (by kernel_rfl) (by kernel_rfl) (by kernel_rfl) rfl rfl (Nat.le_of_ble_eq_true rfl) ?_
  repeat' (conv => whnf); first
    | (refine RunE.cons ?_)
    | (refine RunD.cons ?_)
    | (refine valW.id ?_; first | (refine valW.int ?_) | (refine valW.bool ?_) | (refine valW.unit ?_) | ((first | refine valW.ptr ?_ ?_ ?_ | refine valW.el ?_ ?_ ?_); focus ((try simp only [List.length_cons, List.length_nil, List.take_succ_cons, List.take_zero, List.drop_succ_cons, List.drop_zero, List.cons_append, List.nil_append, List.append_nil, List.map_cons, List.map_nil, List.set_cons_zero, List.set_cons_succ, Nat.reduceAdd, Nat.reduceSub, Nat.reduceMul, splice, AS.setBox, AS.push, AS.pushes, AS.pushOwn, AS.setOwn, AV.cells]); first | done | rfl); focus (first | exact (rfl : _ = 0) | exact (rfl : _ = 1) | exact (rfl : _ = 2) | exact (rfl : _ = 3) | exact (rfl : _ = 4) | exact (rfl : _ = 5) | exact (rfl : _ = 6) | exact (rfl : _ = 7) | exact (rfl : _ = 8) | exact (rfl : _ = 9) | exact (rfl : _ = 10) | exact (rfl : _ = 11) | rfl)) | (refine valW.agg (cs' := [_, _]) rfl ?_) | (refine valW.agg (cs' := [_, _, _, _, _]) rfl ?_) | (refine valW.agg (cs' := [_, _, _, _]) rfl ?_) | (refine valW.agg (cs' := [_]) rfl ?_) | (refine valW.agg (cs' := [_, _, _]) rfl ?_) | (refine valW.agg (cs' := [_, _, _, _, _, _]) rfl ?_) | (refine valW.agg (cs' := [_, _, _, _, _, _, _]) rfl ?_) | (refine valW.agg (cs' := [_, _, _, _, _, _, _, _]) rfl ?_) | (refine valW.agg (cs' := [_, _, _, _, _, _, _, _, _]) rfl ?_) | (refine valW.agg (cs' := [_, _, _, _, _, _, _, _, _, _]) rfl ?_) | (refine valW.agg (cs' := [_, _, _, _, _, _, _, _, _, _, _]) rfl ?_) | (refine valW.agg (cs' := [_, _, _, _, _, _, _, _, _, _, _, _]) rfl ?_) | ((first | refine valW.agg ?_ ?_ | refine valW.sl ?_ ?_ | refine valW.tup ?_ ?_); focus ((try simp only [List.length_cons, List.length_nil, List.take_succ_cons, List.take_zero, List.drop_succ_cons, List.drop_zero, List.cons_append, List.nil_append, List.append_nil, List.map_cons, List.map_nil, List.set_cons_zero, List.set_cons_succ, Nat.reduceAdd, Nat.reduceSub, Nat.reduceMul, splice, AS.setBox, AS.push, AS.pushes, AS.pushOwn, AS.setOwn, AV.cells]); first | done | rfl)) | (refine valW.eq rfl ?_) | fail)
    | (refine stW.id ?_; first | (refine stW.eq (by first | (simp only [List.length_cons, List.length_nil, List.take_succ_cons, List.take_zero, List.drop_succ_cons, List.drop_zero, List.cons_append, List.nil_append, List.append_nil, List.map_cons, List.map_nil, List.set_cons_zero, List.set_cons_succ, Nat.reduceAdd, Nat.reduceSub, Nat.reduceMul, splice, AS.setBox, AS.push, AS.pushes, AS.pushOwn, AS.setOwn, AV.cells]; done) | (simp only [List.length_cons, List.length_nil, List.take_succ_cons, List.take_zero, List.drop_succ_cons, List.drop_zero, List.cons_append, List.nil_append, List.append_nil, List.map_cons, List.map_nil, List.set_cons_zero, List.set_cons_succ, Nat.reduceAdd, Nat.reduceSub, Nat.reduceMul, splice, AS.setBox, AS.push, AS.pushes, AS.pushOwn, AS.setOwn, AV.cells]; rfl) | rfl) ?_) | (refine stW.mk' ?_))
    | (refine RunE.nil ?_)
    | (refine RunD.nil ?_)
    | (refine RunC.seq ?_)
    | (refine RunC.regE ?_)
    | (refine RunC.regD (by kernel_rfl) ?_)
    | (refine RunC.cond ?_)
    | (refine RunC.block ?_)
    | (refine RunC.ret ?_)
    | (refine RunC.exit ?_)
    | (refine RunC.skip ?_)
    | (refine RunC.label ?_)
    | (refine callG.id ?_; first | (refine callG.by (c27 _ _ _) ?_) | fail)
    | (refine ACallH.id ?_; first | (refine ACallH.by (c27 _ _ _) ?_) | fail)
    | (refine ifH.id ?_; first | (refine ifH_isT (by assumption) ?_) | (refine ifH_isF (by assumption) ?_) | (refine ifH_pos (by assumption) ?_) | (refine ifH_neg (by assumption) ?_) | (refine ifH_isT rfl ?_) | (refine ifH_isF rfl ?_) | (refine ifH_not ?_) | (refine ifH_dec (fun h => ?_) (fun h => ?_)) | (refine ifH_split (fun h => ?_) (fun h => ?_)) | fail)
    | (refine someH.id ?_; first | (refine someH_of rfl ?_) | (refine someH_of (by assumption) ?_) | (refine someH_of azero_27 ?_) | (refine someH_of azero_45 ?_) | (refine someH_of azero_23 ?_) | (refine someH_of azero_60 ?_) | (refine someH_of azero_95 ?_) | (refine someH_of azero_63 ?_) | (refine someH_of azero_116 ?_) | (refine someH_of azero_114 ?_) | (refine someH_of azero_137 ?_) | (refine someH_of azero_57 ?_) | (refine someH_of aslc_61 ?_) | (refine someH_of azero_29 ?_) | (refine someH_of aslc_55 ?_) | (refine someH_of aslc_58 ?_) | (refine someH_of aslc_208 ?_) | (refine someH_of azero_160 ?_) | (refine someH_of azero_168 ?_) | (refine someH_of azero_173 ?_) | (refine someH_of azero_175 ?_) | (refine someH_of azero_3 ?_) | (refine someH_of azero_131 ?_) | (refine someH_of azero_25 ?_) | (refine someH_of azero_96 ?_) | (refine someH_of azero_55 ?_) | (refine someH_of azero_81 ?_) | (refine someH_of aslc_81 ?_) | (refine someH_of azero_4 ?_) | (refine someH_of azero_217 ?_) | (refine someH_of azero_129 ?_) | (refine someH_of azero_61 ?_) | (refine someH_of aslc_206 ?_) | (refine someH_of (aggEqw_27 _ _ _ _) ?_) | (refine someH_of (aggEqw_45 _ _ _ _ _ _ _ _) ?_) | (refine someH_of (aggEqw_116 _ _ _ _) ?_) | (refine someH_of (aggEqw_23 _ _ _ _) ?_) | fail)
    | (refine And.intro rfl ?_)
    | (refine And.intro (by assumption) ?_)
    | (refine And.intro (by decide) ?_)
    | fail
  all_goals ((try simp only [neg1] at *); exact FinW.of (int _) rfl (by simp [rangeE, firstL, un, *]))
theorem c97b (lo hi : Int) : DCall Try.prog 97 [.agg [int lo, int hi], int 1000] (int (rangeE lo hi 1000)) := by
  refine DCall.fnF hm Try.func97 rfl Try.ntmps97 Try.results97 (by kernel_rfl) (by kernel_rfl) (by kernel_rfl) rfl rfl (Nat.le_of_ble_eq_true rfl) ?_
  repeat' (conv => whnf); first
    | (refine RunE.cons ?_)
    | (refine RunD.cons ?_)
    | (refine valW.id ?_; first | (refine valW.int ?_) | (refine valW.bool ?_) | (refine valW.unit ?_) | ((first | refine valW.ptr ?_ ?_ ?_ | refine valW.el ?_ ?_ ?_); focus ((try simp only [List.length_cons, List.length_nil, List.take_succ_cons, List.take_zero, List.drop_succ_cons, List.drop_zero, List.cons_append, List.nil_append, List.append_nil, List.map_cons, List.map_nil, List.set_cons_zero, List.set_cons_succ, Nat.reduceAdd, Nat.reduceSub, Nat.reduceMul, splice, AS.setBox, AS.push, AS.pushes, AS.pushOwn, AS.setOwn, AV.cells]); first | done | rfl); focus (first | exact (rfl : _ = 0) | exact (rfl : _ = 1) | exact (rfl : _ = 2) | exact (rfl : _ = 3) | exact (rfl : _ = 4) | exact (rfl : _ = 5) | exact (rfl : _ = 6) | exact (rfl : _ = 7) | exact (rfl : _ = 8) | exact (rfl : _ = 9) | exact (rfl : _ = 10) | exact (rfl : _ = 11) | rfl)) | (refine valW.agg (cs' := [_, _]) rfl ?_) | (refine valW.agg (cs' := [_, _, _, _, _]) rfl ?_) | (refine valW.agg (cs' := [_, _, _, _]) rfl ?_) | (refine valW.agg (cs' := [_]) rfl ?_) | (refine valW.agg (cs' := [_, _, _]) rfl ?_) | (refine valW.agg (cs' := [_, _, _, _, _, _]) rfl ?_) | (refine valW.agg (cs' := [_, _, _, _, _, _, _]) rfl ?_) | (refine valW.agg (cs' := [_, _, _, _, _, _, _, _]) rfl ?_) | (refine valW.agg (cs' := [_, _, _, _, _, _, _, _, _]) rfl ?_) | (refine valW.agg (cs' := [_, _, _, _, _, _, _, _, _, _]) rfl ?_) | (refine valW.agg (cs' := [_, _, _, _, _, _, _, _, _, _, _]) rfl ?_) | (refine valW.agg (cs' := [_, _, _, _, _, _, _, _, _, _, _, _]) rfl ?_) | ((first | refine valW.agg ?_ ?_ | refine valW.sl ?_ ?_ | refine valW.tup ?_ ?_); focus ((try simp only [List.length_cons, List.length_nil, List.take_succ_cons, List.take_zero, List.drop_succ_cons, List.drop_zero, List.cons_append, List.nil_append, List.append_nil, List.map_cons, List.map_nil, List.set_cons_zero, List.set_cons_succ, Nat.reduceAdd, Nat.reduceSub, Nat.reduceMul, splice, AS.setBox, AS.push, AS.pushes, AS.pushOwn, AS.setOwn, AV.cells]); first | done | rfl)) | (refine valW.eq rfl ?_) | fail)
    | (refine stW.id ?_; first | (refine stW.eq (by first | (simp only [List.length_cons, List.length_nil, List.take_succ_cons, List.take_zero, List.drop_succ_cons, List.drop_zero, List.cons_append, List.nil_append, List.append_nil, List.map_cons, List.map_nil, List.set_cons_zero, List.set_cons_succ, Nat.reduceAdd, Nat.reduceSub, Nat.reduceMul, splice, AS.setBox, AS.push, AS.pushes, AS.pushOwn, AS.setOwn, AV.cells]; done) | (simp only [List.length_cons, List.length_nil, List.take_succ_cons, List.take_zero, List.drop_succ_cons, List.drop_zero, List.cons_append, List.nil_append, List.append_nil, List.map_cons, List.map_nil, List.set_cons_zero, List.set_cons_succ, Nat.reduceAdd, Nat.reduceSub, Nat.reduceMul, splice, AS.setBox, AS.push, AS.pushes, AS.pushOwn, AS.setOwn, AV.cells]; rfl) | rfl) ?_) | (refine stW.mk' ?_))
    | (refine RunE.nil ?_)
    | (refine RunD.nil ?_)
    | (refine RunC.seq ?_)
    | (refine RunC.regE ?_)
    | (refine RunC.regD (by kernel_rfl) ?_)
    | (refine RunC.cond ?_)
    | (refine RunC.block ?_)
    | (refine RunC.ret ?_)
    | (refine RunC.exit ?_)
    | (refine RunC.skip ?_)
    | (refine RunC.label ?_)
    | (refine callG.id ?_; first | (refine callG.by (c27 _ _ _) ?_) | fail)
    | (refine ACallH.id ?_; first | (refine ACallH.by (c27 _ _ _) ?_) | fail)
    | (refine ifH.id ?_; first | (refine ifH_isT (by assumption) ?_) | (refine ifH_isF (by assumption) ?_) | (refine ifH_pos (by assumption) ?_) | (refine ifH_neg (by assumption) ?_) | (refine ifH_isT rfl ?_) | (refine ifH_isF rfl ?_) | (refine ifH_not ?_) | (refine ifH_dec (fun h => ?_) (fun h => ?_)) | (refine ifH_split (fun h => ?_) (fun h => ?_)) | fail)
    | (refine someH.id ?_; first | (refine someH_of rfl ?_) | (refine someH_of (by assumption) ?_) | (refine someH_of azero_27 ?_) | (refine someH_of azero_45 ?_) | (refine someH_of azero_23 ?_) | (refine someH_of azero_60 ?_) | (refine someH_of azero_95 ?_) | (refine someH_of azero_63 ?_) | (refine someH_of azero_116 ?_) | (refine someH_of azero_114 ?_) | (refine someH_of azero_137 ?_) | (refine someH_of azero_57 ?_) | (refine someH_of aslc_61 ?_) | (refine someH_of azero_29 ?_) | (refine someH_of aslc_55 ?_) | (refine someH_of aslc_58 ?_) | (refine someH_of aslc_208 ?_) | (refine someH_of azero_160 ?_) | (refine someH_of azero_168 ?_) | (refine someH_of azero_173 ?_) | (refine someH_of azero_175 ?_) | (refine someH_of azero_3 ?_) | (refine someH_of azero_131 ?_) | (refine someH_of azero_25 ?_) | (refine someH_of azero_96 ?_) | (refine someH_of azero_55 ?_) | (refine someH_of azero_81 ?_) | (refine someH_of aslc_81 ?_) | (refine someH_of azero_4 ?_) | (refine someH_of azero_217 ?_) | (refine someH_of azero_129 ?_) | (refine someH_of azero_61 ?_) | (refine someH_of aslc_206 ?_) | (refine someH_of (aggEqw_27 _ _ _ _) ?_) | (refine someH_of (aggEqw_45 _ _ _ _ _ _ _ _) ?_) | (refine someH_of (aggEqw_116 _ _ _ _) ?_) | (refine someH_of (aggEqw_23 _ _ _ _) ?_) | fail)
    | (refine And.intro rfl ?_)
    | (refine And.intro (by assumption) ?_)
    | (refine And.intro (by decide) ?_)
    | fail
  all_goals ((try simp only [neg2] at *); exact FinW.of (int _) rfl (by simp [rangeE, firstL, un, *]))
theorem c24 (llo lhi qlo qhi : Int) : DCall Try.prog 24 [.agg [int llo, int lhi, int qlo, int qhi]] (int (boxE llo lhi qlo qhi)) := by
  refine DCall.fnF hm Try.func24 rfl Try.ntmps24 Try.results24 (by kernel_rfl) (by kernel_rfl) (by kernel_rfl) rfl rfl (Nat.le_of_ble_eq_true rfl) ?_
  repeat' (conv => whnf); first
    | (refine RunE.cons ?_)
    | (refine RunD.cons ?_)
    | (refine valW.id ?_; first | (refine valW.int ?_) | (refine valW.bool ?_) | (refine valW.unit ?_) | ((first | refine valW.ptr ?_ ?_ ?_ | refine valW.el ?_ ?_ ?_); focus ((try simp only [List.length_cons, List.length_nil, List.take_succ_cons, List.take_zero, List.drop_succ_cons, List.drop_zero, List.cons_append, List.nil_append, List.append_nil, List.map_cons, List.map_nil, List.set_cons_zero, List.set_cons_succ, Nat.reduceAdd, Nat.reduceSub, Nat.reduceMul, splice, AS.setBox, AS.push, AS.pushes, AS.pushOwn, AS.setOwn, AV.cells]); first | done | rfl); focus (first | exact (rfl : _ = 0) | exact (rfl : _ = 1) | exact (rfl : _ = 2) | exact (rfl : _ = 3) | exact (rfl : _ = 4) | exact (rfl : _ = 5) | exact (rfl : _ = 6) | exact (rfl : _ = 7) | exact (rfl : _ = 8) | exact (rfl : _ = 9) | exact (rfl : _ = 10) | exact (rfl : _ = 11) | rfl)) | (refine valW.agg (cs' := [_, _]) rfl ?_) | (refine valW.agg (cs' := [_, _, _, _, _]) rfl ?_) | (refine valW.agg (cs' := [_, _, _, _]) rfl ?_) | (refine valW.agg (cs' := [_]) rfl ?_) | (refine valW.agg (cs' := [_, _, _]) rfl ?_) | (refine valW.agg (cs' := [_, _, _, _, _, _]) rfl ?_) | (refine valW.agg (cs' := [_, _, _, _, _, _, _]) rfl ?_) | (refine valW.agg (cs' := [_, _, _, _, _, _, _, _]) rfl ?_) | (refine valW.agg (cs' := [_, _, _, _, _, _, _, _, _]) rfl ?_) | (refine valW.agg (cs' := [_, _, _, _, _, _, _, _, _, _]) rfl ?_) | (refine valW.agg (cs' := [_, _, _, _, _, _, _, _, _, _, _]) rfl ?_) | (refine valW.agg (cs' := [_, _, _, _, _, _, _, _, _, _, _, _]) rfl ?_) | ((first | refine valW.agg ?_ ?_ | refine valW.sl ?_ ?_ | refine valW.tup ?_ ?_); focus ((try simp only [List.length_cons, List.length_nil, List.take_succ_cons, List.take_zero, List.drop_succ_cons, List.drop_zero, List.cons_append, List.nil_append, List.append_nil, List.map_cons, List.map_nil, List.set_cons_zero, List.set_cons_succ, Nat.reduceAdd, Nat.reduceSub, Nat.reduceMul, splice, AS.setBox, AS.push, AS.pushes, AS.pushOwn, AS.setOwn, AV.cells]); first | done | rfl)) | (refine valW.eq rfl ?_) | fail)
    | (refine stW.id ?_; first | (refine stW.eq (by first | (simp only [List.length_cons, List.length_nil, List.take_succ_cons, List.take_zero, List.drop_succ_cons, List.drop_zero, List.cons_append, List.nil_append, List.append_nil, List.map_cons, List.map_nil, List.set_cons_zero, List.set_cons_succ, Nat.reduceAdd, Nat.reduceSub, Nat.reduceMul, splice, AS.setBox, AS.push, AS.pushes, AS.pushOwn, AS.setOwn, AV.cells]; done) | (simp only [List.length_cons, List.length_nil, List.take_succ_cons, List.take_zero, List.drop_succ_cons, List.drop_zero, List.cons_append, List.nil_append, List.append_nil, List.map_cons, List.map_nil, List.set_cons_zero, List.set_cons_succ, Nat.reduceAdd, Nat.reduceSub, Nat.reduceMul, splice, AS.setBox, AS.push, AS.pushes, AS.pushOwn, AS.setOwn, AV.cells]; rfl) | rfl) ?_) | (refine stW.mk' ?_))
    | (refine RunE.nil ?_)
    | (refine RunD.nil ?_)
    | (refine RunC.seq ?_)
    | (refine RunC.regE ?_)
    | (refine RunC.regD (by kernel_rfl) ?_)
    | (refine RunC.cond ?_)
    | (refine RunC.block ?_)
    | (refine RunC.ret ?_)
    | (refine RunC.exit ?_)
    | (refine RunC.skip ?_)
    | (refine RunC.label ?_)
    | (refine callG.id ?_; first | (refine callG.by (c97a _ _) ?_) | (refine callG.by (c97b _ _) ?_) | fail)
    | (refine ACallH.id ?_; first | (refine ACallH.by (c97a _ _) ?_) | (refine ACallH.by (c97b _ _) ?_) | fail)
    | (refine ifH.id ?_; first | (refine ifH_isT (by assumption) ?_) | (refine ifH_isF (by assumption) ?_) | (refine ifH_pos (by assumption) ?_) | (refine ifH_neg (by assumption) ?_) | (refine ifH_isT rfl ?_) | (refine ifH_isF rfl ?_) | (refine ifH_not ?_) | (refine ifH_dec (fun h => ?_) (fun h => ?_)) | (refine ifH_split (fun h => ?_) (fun h => ?_)) | fail)
    | (refine someH.id ?_; first | (refine someH_of rfl ?_) | (refine someH_of (by assumption) ?_) | (refine someH_of azero_27 ?_) | (refine someH_of azero_45 ?_) | (refine someH_of azero_23 ?_) | (refine someH_of azero_60 ?_) | (refine someH_of azero_95 ?_) | (refine someH_of azero_63 ?_) | (refine someH_of azero_116 ?_) | (refine someH_of azero_114 ?_) | (refine someH_of azero_137 ?_) | (refine someH_of azero_57 ?_) | (refine someH_of aslc_61 ?_) | (refine someH_of azero_29 ?_) | (refine someH_of aslc_55 ?_) | (refine someH_of aslc_58 ?_) | (refine someH_of aslc_208 ?_) | (refine someH_of azero_160 ?_) | (refine someH_of azero_168 ?_) | (refine someH_of azero_173 ?_) | (refine someH_of azero_175 ?_) | (refine someH_of azero_3 ?_) | (refine someH_of azero_131 ?_) | (refine someH_of azero_25 ?_) | (refine someH_of azero_96 ?_) | (refine someH_of azero_55 ?_) | (refine someH_of azero_81 ?_) | (refine someH_of aslc_81 ?_) | (refine someH_of azero_4 ?_) | (refine someH_of azero_217 ?_) | (refine someH_of azero_129 ?_) | (refine someH_of azero_61 ?_) | (refine someH_of aslc_206 ?_) | (refine someH_of (aggEqw_27 _ _ _ _) ?_) | (refine someH_of (aggEqw_45 _ _ _ _ _ _ _ _) ?_) | (refine someH_of (aggEqw_116 _ _ _ _) ?_) | (refine someH_of (aggEqw_23 _ _ _ _) ?_) | fail)
    | (refine And.intro rfl ?_)
    | (refine And.intro (by assumption) ?_)
    | (refine And.intro (by decide) ?_)
    | fail
  all_goals (refine FinW.of (int _) rfl ?_; simp only [rangeE, boxE, firstL] at *; grind)
theorem c118 (llo lhi qlo qhi : Int) : DCall Try.prog 118 [.agg [int llo, int lhi, int qlo, int qhi]] (int (boxE llo lhi qlo qhi)) := by
  refine DCall.fnF hm Try.func118 rfl Try.ntmps118 Try.results118 (by kernel_rfl) (by kernel_rfl) (by kernel_rfl) rfl rfl (Nat.le_of_ble_eq_true rfl) ?_
  repeat' (conv => whnf); first
    | (refine RunE.cons ?_)
    | (refine RunD.cons ?_)
    | (refine valW.id ?_; first | (refine valW.int ?_) | (refine valW.bool ?_) | (refine valW.unit ?_) | ((first | refine valW.ptr ?_ ?_ ?_ | refine valW.el ?_ ?_ ?_); focus ((try simp only [List.length_cons, List.length_nil, List.take_succ_cons, List.take_zero, List.drop_succ_cons, List.drop_zero, List.cons_append, List.nil_append, List.append_nil, List.map_cons, List.map_nil, List.set_cons_zero, List.set_cons_succ, Nat.reduceAdd, Nat.reduceSub, Nat.reduceMul, splice, AS.setBox, AS.push, AS.pushes, AS.pushOwn, AS.setOwn, AV.cells]); first | done | rfl); focus (first | exact (rfl : _ = 0) | exact (rfl : _ = 1) | exact (rfl : _ = 2) | exact (rfl : _ = 3) | exact (rfl : _ = 4) | exact (rfl : _ = 5) | exact (rfl : _ = 6) | exact (rfl : _ = 7) | exact (rfl : _ = 8) | exact (rfl : _ = 9) | exact (rfl : _ = 10) | exact (rfl : _ = 11) | rfl)) | (refine valW.agg (cs' := [_, _]) rfl ?_) | (refine valW.agg (cs' := [_, _, _, _, _]) rfl ?_) | (refine valW.agg (cs' := [_, _, _, _]) rfl ?_) | (refine valW.agg (cs' := [_]) rfl ?_) | (refine valW.agg (cs' := [_, _, _]) rfl ?_) | (refine valW.agg (cs' := [_, _, _, _, _, _]) rfl ?_) | (refine valW.agg (cs' := [_, _, _, _, _, _, _]) rfl ?_) | (refine valW.agg (cs' := [_, _, _, _, _, _, _, _]) rfl ?_) | (refine valW.agg (cs' := [_, _, _, _, _, _, _, _, _]) rfl ?_) | (refine valW.agg (cs' := [_, _, _, _, _, _, _, _, _, _]) rfl ?_) | (refine valW.agg (cs' := [_, _, _, _, _, _, _, _, _, _, _]) rfl ?_) | (refine valW.agg (cs' := [_, _, _, _, _, _, _, _, _, _, _, _]) rfl ?_) | ((first | refine valW.agg ?_ ?_ | refine valW.sl ?_ ?_ | refine valW.tup ?_ ?_); focus ((try simp only [List.length_cons, List.length_nil, List.take_succ_cons, List.take_zero, List.drop_succ_cons, List.drop_zero, List.cons_append, List.nil_append, List.append_nil, List.map_cons, List.map_nil, List.set_cons_zero, List.set_cons_succ, Nat.reduceAdd, Nat.reduceSub, Nat.reduceMul, splice, AS.setBox, AS.push, AS.pushes, AS.pushOwn, AS.setOwn, AV.cells]); first | done | rfl)) | (refine valW.eq rfl ?_) | fail)
    | (refine stW.id ?_; first | (refine stW.eq (by first | (simp only [List.length_cons, List.length_nil, List.take_succ_cons, List.take_zero, List.drop_succ_cons, List.drop_zero, List.cons_append, List.nil_append, List.append_nil, List.map_cons, List.map_nil, List.set_cons_zero, List.set_cons_succ, Nat.reduceAdd, Nat.reduceSub, Nat.reduceMul, splice, AS.setBox, AS.push, AS.pushes, AS.pushOwn, AS.setOwn, AV.cells]; done) | (simp only [List.length_cons, List.length_nil, List.take_succ_cons, List.take_zero, List.drop_succ_cons, List.drop_zero, List.cons_append, List.nil_append, List.append_nil, List.map_cons, List.map_nil, List.set_cons_zero, List.set_cons_succ, Nat.reduceAdd, Nat.reduceSub, Nat.reduceMul, splice, AS.setBox, AS.push, AS.pushes, AS.pushOwn, AS.setOwn, AV.cells]; rfl) | rfl) ?_) | (refine stW.mk' ?_))
    | (refine RunE.nil ?_)
    | (refine RunD.nil ?_)
    | (refine RunC.seq ?_)
    | (refine RunC.regE ?_)
    | (refine RunC.regD (by kernel_rfl) ?_)
    | (refine RunC.cond ?_)
    | (refine RunC.block ?_)
    | (refine RunC.ret ?_)
    | (refine RunC.exit ?_)
    | (refine RunC.skip ?_)
    | (refine RunC.label ?_)
    | (refine callG.id ?_; first | (refine callG.by (c142 _) ?_) | (refine callG.by (c143 _) ?_) | (refine callG.by (c93 _ _) ?_) | (refine callG.by (c87 [_, _, _, _] (by simp)) ?_) | fail)
    | (refine ACallH.id ?_; first | (refine ACallH.by (c142 _) ?_) | (refine ACallH.by (c143 _) ?_) | (refine ACallH.by (c93 _ _) ?_) | (refine ACallH.by (c87 [_, _, _, _] (by simp)) ?_) | fail)
    | (refine ifH.id ?_; first | (refine ifH_isT (by assumption) ?_) | (refine ifH_isF (by assumption) ?_) | (refine ifH_pos (by assumption) ?_) | (refine ifH_neg (by assumption) ?_) | (refine ifH_isT rfl ?_) | (refine ifH_isF rfl ?_) | (refine ifH_not ?_) | (refine ifH_dec (fun h => ?_) (fun h => ?_)) | (refine ifH_split (fun h => ?_) (fun h => ?_)) | fail)
    | (refine someH.id ?_; first | (refine someH_of rfl ?_) | (refine someH_of (by assumption) ?_) | (refine someH_of azero_27 ?_) | (refine someH_of azero_45 ?_) | (refine someH_of azero_23 ?_) | (refine someH_of azero_60 ?_) | (refine someH_of azero_95 ?_) | (refine someH_of azero_63 ?_) | (refine someH_of azero_116 ?_) | (refine someH_of azero_114 ?_) | (refine someH_of azero_137 ?_) | (refine someH_of azero_57 ?_) | (refine someH_of aslc_61 ?_) | (refine someH_of azero_29 ?_) | (refine someH_of aslc_55 ?_) | (refine someH_of aslc_58 ?_) | (refine someH_of aslc_208 ?_) | (refine someH_of azero_160 ?_) | (refine someH_of azero_168 ?_) | (refine someH_of azero_173 ?_) | (refine someH_of azero_175 ?_) | (refine someH_of azero_3 ?_) | (refine someH_of azero_131 ?_) | (refine someH_of azero_25 ?_) | (refine someH_of azero_96 ?_) | (refine someH_of azero_55 ?_) | (refine someH_of azero_81 ?_) | (refine someH_of aslc_81 ?_) | (refine someH_of azero_4 ?_) | (refine someH_of azero_217 ?_) | (refine someH_of azero_129 ?_) | (refine someH_of azero_61 ?_) | (refine someH_of aslc_206 ?_) | (refine someH_of (aggEqw_27 _ _ _ _) ?_) | (refine someH_of (aggEqw_45 _ _ _ _ _ _ _ _) ?_) | (refine someH_of (aggEqw_116 _ _ _ _) ?_) | (refine someH_of (aggEqw_23 _ _ _ _) ?_) | fail)
    | (refine And.intro rfl ?_)
    | (refine And.intro (by assumption) ?_)
    | (refine And.intro (by decide) ?_)
    | fail
  all_goals (exact FinW.of (int _) rfl (by simp [boxE, *]))
theorem c55 (ine area flo fhi thr : Int) (llo lhi qlo qhi : Int) : DCall Try.prog 55 [.agg [int ine, int area, int flo, int fhi, int thr], .agg [int llo, int lhi, int qlo, int qhi]] (int (firstL [rulesE ine area flo fhi thr, boxE llo lhi qlo qhi])) := by
  refine DCall.fnF hm Try.func55 rfl Try.ntmps55 Try.results55 (by kernel_rfl) (by kernel_rfl) (by kernel_rfl) rfl rfl (Nat.le_of_ble_eq_true rfl) ?_
  repeat' (conv => whnf); first
    | (refine RunE.cons ?_)
    | (refine RunD.cons ?_)
    | (refine valW.id ?_; first | (refine valW.int ?_) | (refine valW.bool ?_) | (refine valW.unit ?_) | ((first | refine valW.ptr ?_ ?_ ?_ | refine valW.el ?_ ?_ ?_); focus ((try simp only [List.length_cons, List.length_nil, List.take_succ_cons, List.take_zero, List.drop_succ_cons, List.drop_zero, List.cons_append, List.nil_append, List.append_nil, List.map_cons, List.map_nil, List.set_cons_zero, List.set_cons_succ, Nat.reduceAdd, Nat.reduceSub, Nat.reduceMul, splice, AS.setBox, AS.push, AS.pushes, AS.pushOwn, AS.setOwn, AV.cells]); first | done | rfl); focus (first | exact (rfl : _ = 0) | exact (rfl : _ = 1) | exact (rfl : _ = 2) | exact (rfl : _ = 3) | exact (rfl : _ = 4) | exact (rfl : _ = 5) | exact (rfl : _ = 6) | exact (rfl : _ = 7) | exact (rfl : _ = 8) | exact (rfl : _ = 9) | exact (rfl : _ = 10) | exact (rfl : _ = 11) | rfl)) | (refine valW.agg (cs' := [_, _]) rfl ?_) | (refine valW.agg (cs' := [_, _, _, _, _]) rfl ?_) | (refine valW.agg (cs' := [_, _, _, _]) rfl ?_) | (refine valW.agg (cs' := [_]) rfl ?_) | (refine valW.agg (cs' := [_, _, _]) rfl ?_) | (refine valW.agg (cs' := [_, _, _, _, _, _]) rfl ?_) | (refine valW.agg (cs' := [_, _, _, _, _, _, _]) rfl ?_) | (refine valW.agg (cs' := [_, _, _, _, _, _, _, _]) rfl ?_) | (refine valW.agg (cs' := [_, _, _, _, _, _, _, _, _]) rfl ?_) | (refine valW.agg (cs' := [_, _, _, _, _, _, _, _, _, _]) rfl ?_) | (refine valW.agg (cs' := [_, _, _, _, _, _, _, _, _, _, _]) rfl ?_) | (refine valW.agg (cs' := [_, _, _, _, _, _, _, _, _, _, _, _]) rfl ?_) | ((first | refine valW.agg ?_ ?_ | refine valW.sl ?_ ?_ | refine valW.tup ?_ ?_); focus ((try simp only [List.length_cons, List.length_nil, List.take_succ_cons, List.take_zero, List.drop_succ_cons, List.drop_zero, List.cons_append, List.nil_append, List.append_nil, List.map_cons, List.map_nil, List.set_cons_zero, List.set_cons_succ, Nat.reduceAdd, Nat.reduceSub, Nat.reduceMul, splice, AS.setBox, AS.push, AS.pushes, AS.pushOwn, AS.setOwn, AV.cells]); first | done | rfl)) | (refine valW.eq rfl ?_) | fail)
    | (refine stW.id ?_; first | (refine stW.eq (by first | (simp only [List.length_cons, List.length_nil, List.take_succ_cons, List.take_zero, List.drop_succ_cons, List.drop_zero, List.cons_append, List.nil_append, List.append_nil, List.map_cons, List.map_nil, List.set_cons_zero, List.set_cons_succ, Nat.reduceAdd, Nat.reduceSub, Nat.reduceMul, splice, AS.setBox, AS.push, AS.pushes, AS.pushOwn, AS.setOwn, AV.cells]; done) | (simp only [List.length_cons, List.length_nil, List.take_succ_cons, List.take_zero, List.drop_succ_cons, List.drop_zero, List.cons_append, List.nil_append, List.append_nil, List.map_cons, List.map_nil, List.set_cons_zero, List.set_cons_succ, Nat.reduceAdd, Nat.reduceSub, Nat.reduceMul, splice, AS.setBox, AS.push, AS.pushes, AS.pushOwn, AS.setOwn, AV.cells]; rfl) | rfl) ?_) | (refine stW.mk' ?_))
    | (refine RunE.nil ?_)
    | (refine RunD.nil ?_)
    | (refine RunC.seq ?_)
    | (refine RunC.regE ?_)
    | (refine RunC.regD (by kernel_rfl) ?_)
    | (refine RunC.cond ?_)
    | (refine RunC.block ?_)
    | (refine RunC.ret ?_)
    | (refine RunC.exit ?_)
    | (refine RunC.skip ?_)
    | (refine RunC.label ?_)
    | (refine callG.id ?_; first | (refine callG.by (c18 _ _ _ _ _) ?_) | (refine callG.by (c118 _ _ _ _) ?_) | (refine callG.by (c87 [_, _] (by simp)) ?_) | fail)
    | (refine ACallH.id ?_; first | (refine ACallH.by (c18 _ _ _ _ _) ?_) | (refine ACallH.by (c118 _ _ _ _) ?_) | (refine ACallH.by (c87 [_, _] (by simp)) ?_) | fail)
    | (refine ifH.id ?_; first | (refine ifH_isT (by assumption) ?_) | (refine ifH_isF (by assumption) ?_) | (refine ifH_pos (by assumption) ?_) | (refine ifH_neg (by assumption) ?_) | (refine ifH_isT rfl ?_) | (refine ifH_isF rfl ?_) | (refine ifH_not ?_) | (refine ifH_dec (fun h => ?_) (fun h => ?_)) | (refine ifH_split (fun h => ?_) (fun h => ?_)) | fail)
    | (refine someH.id ?_; first | (refine someH_of rfl ?_) | (refine someH_of (by assumption) ?_) | (refine someH_of azero_27 ?_) | (refine someH_of azero_45 ?_) | (refine someH_of azero_23 ?_) | (refine someH_of azero_60 ?_) | (refine someH_of azero_95 ?_) | (refine someH_of azero_63 ?_) | (refine someH_of azero_116 ?_) | (refine someH_of azero_114 ?_) | (refine someH_of azero_137 ?_) | (refine someH_of azero_57 ?_) | (refine someH_of aslc_61 ?_) | (refine someH_of azero_29 ?_) | (refine someH_of aslc_55 ?_) | (refine someH_of aslc_58 ?_) | (refine someH_of aslc_208 ?_) | (refine someH_of azero_160 ?_) | (refine someH_of azero_168 ?_) | (refine someH_of azero_173 ?_) | (refine someH_of azero_175 ?_) | (refine someH_of azero_3 ?_) | (refine someH_of azero_131 ?_) | (refine someH_of azero_25 ?_) | (refine someH_of azero_96 ?_) | (refine someH_of azero_55 ?_) | (refine someH_of azero_81 ?_) | (refine someH_of aslc_81 ?_) | (refine someH_of azero_4 ?_) | (refine someH_of azero_217 ?_) | (refine someH_of azero_129 ?_) | (refine someH_of azero_61 ?_) | (refine someH_of aslc_206 ?_) | (refine someH_of (aggEqw_27 _ _ _ _) ?_) | (refine someH_of (aggEqw_45 _ _ _ _ _ _ _ _) ?_) | (refine someH_of (aggEqw_116 _ _ _ _) ?_) | (refine someH_of (aggEqw_23 _ _ _ _) ?_) | fail)
    | (refine And.intro rfl ?_)
    | (refine And.intro (by assumption) ?_)
    | (refine And.intro (by decide) ?_)
    | fail
  all_goals (exact FinW.of (int _) rfl rfl)
theorem c26 (llo lhi qlo qhi lvl flow : Int) : DCall Try.prog 26 [.agg [int llo, int lhi, int qlo, int qhi], .agg [int lvl, int flow]] (bool (inBox llo lhi qlo qhi lvl flow)) := by
  refine DCall.fnF hm Try.func26 rfl Try.ntmps26 Try.results26 (by kernel_rfl) (by kernel_rfl) (by kernel_rfl) rfl rfl (Nat.le_of_ble_eq_true rfl) ?_
  repeat' (conv => whnf); first
    | (refine RunE.cons ?_)
    | (refine RunD.cons ?_)
    | (refine valW.id ?_; first | (refine valW.int ?_) | (refine valW.bool ?_) | (refine valW.unit ?_) | ((first | refine valW.ptr ?_ ?_ ?_ | refine valW.el ?_ ?_ ?_); focus ((try simp only [List.length_cons, List.length_nil, List.take_succ_cons, List.take_zero, List.drop_succ_cons, List.drop_zero, List.cons_append, List.nil_append, List.append_nil, List.map_cons, List.map_nil, List.set_cons_zero, List.set_cons_succ, Nat.reduceAdd, Nat.reduceSub, Nat.reduceMul, splice, AS.setBox, AS.push, AS.pushes, AS.pushOwn, AS.setOwn, AV.cells]); first | done | rfl); focus (first | exact (rfl : _ = 0) | exact (rfl : _ = 1) | exact (rfl : _ = 2) | exact (rfl : _ = 3) | exact (rfl : _ = 4) | exact (rfl : _ = 5) | exact (rfl : _ = 6) | exact (rfl : _ = 7) | exact (rfl : _ = 8) | exact (rfl : _ = 9) | exact (rfl : _ = 10) | exact (rfl : _ = 11) | rfl)) | (refine valW.agg (cs' := [_, _]) rfl ?_) | (refine valW.agg (cs' := [_, _, _, _, _]) rfl ?_) | (refine valW.agg (cs' := [_, _, _, _]) rfl ?_) | (refine valW.agg (cs' := [_]) rfl ?_) | (refine valW.agg (cs' := [_, _, _]) rfl ?_) | (refine valW.agg (cs' := [_, _, _, _, _, _]) rfl ?_) | (refine valW.agg (cs' := [_, _, _, _, _, _, _]) rfl ?_) | (refine valW.agg (cs' := [_, _, _, _, _, _, _, _]) rfl ?_) | (refine valW.agg (cs' := [_, _, _, _, _, _, _, _, _]) rfl ?_) | (refine valW.agg (cs' := [_, _, _, _, _, _, _, _, _, _]) rfl ?_) | (refine valW.agg (cs' := [_, _, _, _, _, _, _, _, _, _, _]) rfl ?_) | (refine valW.agg (cs' := [_, _, _, _, _, _, _, _, _, _, _, _]) rfl ?_) | ((first | refine valW.agg ?_ ?_ | refine valW.sl ?_ ?_ | refine valW.tup ?_ ?_); focus ((try simp only [List.length_cons, List.length_nil, List.take_succ_cons, List.take_zero, List.drop_succ_cons, List.drop_zero, List.cons_append, List.nil_append, List.append_nil, List.map_cons, List.map_nil, List.set_cons_zero, List.set_cons_succ, Nat.reduceAdd, Nat.reduceSub, Nat.reduceMul, splice, AS.setBox, AS.push, AS.pushes, AS.pushOwn, AS.setOwn, AV.cells]); first | done | rfl)) | (refine valW.eq rfl ?_) | fail)
    | (refine stW.id ?_; first | (refine stW.eq (by first | (simp only [List.length_cons, List.length_nil, List.take_succ_cons, List.take_zero, List.drop_succ_cons, List.drop_zero, List.cons_append, List.nil_append, List.append_nil, List.map_cons, List.map_nil, List.set_cons_zero, List.set_cons_succ, Nat.reduceAdd, Nat.reduceSub, Nat.reduceMul, splice, AS.setBox, AS.push, AS.pushes, AS.pushOwn, AS.setOwn, AV.cells]; done) | (simp only [List.length_cons, List.length_nil, List.take_succ_cons, List.take_zero, List.drop_succ_cons, List.drop_zero, List.cons_append, List.nil_append, List.append_nil, List.map_cons, List.map_nil, List.set_cons_zero, List.set_cons_succ, Nat.reduceAdd, Nat.reduceSub, Nat.reduceMul, splice, AS.setBox, AS.push, AS.pushes, AS.pushOwn, AS.setOwn, AV.cells]; rfl) | rfl) ?_) | (refine stW.mk' ?_))
    | (refine RunE.nil ?_)
    | (refine RunD.nil ?_)
    | (refine RunC.seq ?_)
    | (refine RunC.regE ?_)
    | (refine RunC.regD (by kernel_rfl) ?_)
    | (refine RunC.cond ?_)
    | (refine RunC.block ?_)
    | (refine RunC.ret ?_)
    | (refine RunC.exit ?_)
    | (refine RunC.skip ?_)
    | (refine RunC.label ?_)
    | (refine callG.id ?_; first | (refine callG.by (c27 _ _ _) ?_) | fail)
    | (refine ACallH.id ?_; first | (refine ACallH.by (c27 _ _ _) ?_) | fail)
    | (refine ifH.id ?_; first | (refine ifH_isT (by assumption) ?_) | (refine ifH_isF (by assumption) ?_) | (refine ifH_pos (by assumption) ?_) | (refine ifH_neg (by assumption) ?_) | (refine ifH_isT rfl ?_) | (refine ifH_isF rfl ?_) | (refine ifH_not ?_) | (refine ifH_dec (fun h => ?_) (fun h => ?_)) | (refine ifH_split (fun h => ?_) (fun h => ?_)) | fail)
    | (refine someH.id ?_; first | (refine someH_of rfl ?_) | (refine someH_of (by assumption) ?_) | (refine someH_of azero_27 ?_) | (refine someH_of azero_45 ?_) | (refine someH_of azero_23 ?_) | (refine someH_of azero_60 ?_) | (refine someH_of azero_95 ?_) | (refine someH_of azero_63 ?_) | (refine someH_of azero_116 ?_) | (refine someH_of azero_114 ?_) | (refine someH_of azero_137 ?_) | (refine someH_of azero_57 ?_) | (refine someH_of aslc_61 ?_) | (refine someH_of azero_29 ?_) | (refine someH_of aslc_55 ?_) | (refine someH_of aslc_58 ?_) | (refine someH_of aslc_208 ?_) | (refine someH_of azero_160 ?_) | (refine someH_of azero_168 ?_) | (refine someH_of azero_173 ?_) | (refine someH_of azero_175 ?_) | (refine someH_of azero_3 ?_) | (refine someH_of azero_131 ?_) | (refine someH_of azero_25 ?_) | (refine someH_of azero_96 ?_) | (refine someH_of azero_55 ?_) | (refine someH_of azero_81 ?_) | (refine someH_of aslc_81 ?_) | (refine someH_of azero_4 ?_) | (refine someH_of azero_217 ?_) | (refine someH_of azero_129 ?_) | (refine someH_of azero_61 ?_) | (refine someH_of aslc_206 ?_) | (refine someH_of (aggEqw_27 _ _ _ _) ?_) | (refine someH_of (aggEqw_45 _ _ _ _ _ _ _ _) ?_) | (refine someH_of (aggEqw_116 _ _ _ _) ?_) | (refine someH_of (aggEqw_23 _ _ _ _) ?_) | fail)
    | (refine And.intro rfl ?_)
    | (refine And.intro (by assumption) ?_)
    | (refine And.intro (by decide) ?_)
    | fail
  all_goals (exact FinW.of (bool _) rfl (by simp [inBox, *]))

def sF (ine thr load k lvl flow : Int) : Int := stepF ine thr lvl flow load k
def sV (ine area thr load k lvl flow : Int) : Int := stepV area lvl (stepF ine thr lvl flow load k) load

theorem c98 (ine area flo fhi thr : Int) (llo lhi qlo qhi load : Int) (hi : ine ≠ 0) (ha : area ≠ 0) : DCall Try.prog 98 [.agg [int ine, int area, int flo, int fhi, int thr], .agg [int llo, int lhi, int qlo, int qhi], int load] (.agg [int (min (sV ine area thr load flo llo qlo) (sV ine area thr load fhi llo qlo)), int (max (sV ine area thr load flo lhi qhi) (sV ine area thr load fhi lhi qhi)), int (min (sF ine thr load flo lhi qlo) (sF ine thr load fhi lhi qlo)), int (max (sF ine thr load flo llo qhi) (sF ine thr load fhi llo qhi))]) := by
  refine DCall.fnF hm Try.func98 rfl Try.ntmps98 Try.results98 (by kernel_rfl) (by kernel_rfl) (by kernel_rfl) rfl rfl (Nat.le_of_ble_eq_true rfl) ?_
  repeat' (conv => whnf); first
    | (refine RunE.cons ?_)
    | (refine RunD.cons ?_)
    | (refine valW.id ?_; first | (refine valW.int ?_) | (refine valW.bool ?_) | (refine valW.unit ?_) | ((first | refine valW.ptr ?_ ?_ ?_ | refine valW.el ?_ ?_ ?_); focus ((try simp only [List.length_cons, List.length_nil, List.take_succ_cons, List.take_zero, List.drop_succ_cons, List.drop_zero, List.cons_append, List.nil_append, List.append_nil, List.map_cons, List.map_nil, List.set_cons_zero, List.set_cons_succ, Nat.reduceAdd, Nat.reduceSub, Nat.reduceMul, splice, AS.setBox, AS.push, AS.pushes, AS.pushOwn, AS.setOwn, AV.cells]); first | done | rfl); focus (first | exact (rfl : _ = 0) | exact (rfl : _ = 1) | exact (rfl : _ = 2) | exact (rfl : _ = 3) | exact (rfl : _ = 4) | exact (rfl : _ = 5) | exact (rfl : _ = 6) | exact (rfl : _ = 7) | exact (rfl : _ = 8) | exact (rfl : _ = 9) | exact (rfl : _ = 10) | exact (rfl : _ = 11) | rfl)) | (refine valW.agg (cs' := [_, _]) rfl ?_) | (refine valW.agg (cs' := [_, _, _, _, _]) rfl ?_) | (refine valW.agg (cs' := [_, _, _, _]) rfl ?_) | (refine valW.agg (cs' := [_]) rfl ?_) | (refine valW.agg (cs' := [_, _, _]) rfl ?_) | (refine valW.agg (cs' := [_, _, _, _, _, _]) rfl ?_) | (refine valW.agg (cs' := [_, _, _, _, _, _, _]) rfl ?_) | (refine valW.agg (cs' := [_, _, _, _, _, _, _, _]) rfl ?_) | (refine valW.agg (cs' := [_, _, _, _, _, _, _, _, _]) rfl ?_) | (refine valW.agg (cs' := [_, _, _, _, _, _, _, _, _, _]) rfl ?_) | (refine valW.agg (cs' := [_, _, _, _, _, _, _, _, _, _, _]) rfl ?_) | (refine valW.agg (cs' := [_, _, _, _, _, _, _, _, _, _, _, _]) rfl ?_) | ((first | refine valW.agg ?_ ?_ | refine valW.sl ?_ ?_ | refine valW.tup ?_ ?_); focus ((try simp only [List.length_cons, List.length_nil, List.take_succ_cons, List.take_zero, List.drop_succ_cons, List.drop_zero, List.cons_append, List.nil_append, List.append_nil, List.map_cons, List.map_nil, List.set_cons_zero, List.set_cons_succ, Nat.reduceAdd, Nat.reduceSub, Nat.reduceMul, splice, AS.setBox, AS.push, AS.pushes, AS.pushOwn, AS.setOwn, AV.cells]); first | done | rfl)) | (refine valW.eq rfl ?_) | fail)
    | (refine stW.id ?_; first | (refine stW.eq (by first | (simp only [List.length_cons, List.length_nil, List.take_succ_cons, List.take_zero, List.drop_succ_cons, List.drop_zero, List.cons_append, List.nil_append, List.append_nil, List.map_cons, List.map_nil, List.set_cons_zero, List.set_cons_succ, Nat.reduceAdd, Nat.reduceSub, Nat.reduceMul, splice, AS.setBox, AS.push, AS.pushes, AS.pushOwn, AS.setOwn, AV.cells]; done) | (simp only [List.length_cons, List.length_nil, List.take_succ_cons, List.take_zero, List.drop_succ_cons, List.drop_zero, List.cons_append, List.nil_append, List.append_nil, List.map_cons, List.map_nil, List.set_cons_zero, List.set_cons_succ, Nat.reduceAdd, Nat.reduceSub, Nat.reduceMul, splice, AS.setBox, AS.push, AS.pushes, AS.pushOwn, AS.setOwn, AV.cells]; rfl) | rfl) ?_) | (refine stW.mk' ?_))
    | (refine RunE.nil ?_)
    | (refine RunD.nil ?_)
    | (refine RunC.seq ?_)
    | (refine RunC.regE ?_)
    | (refine RunC.regL (id := 5) (ms := [0, 0, 1, 7]) (by kernel_rfl) ?_)
    | (refine RunC.regD (by kernel_rfl) ?_)
    | (refine RunL.cons ?_)
    | (refine RunL.nil ?_)
    | (refine LateH.by (by (repeat' (conv => whnf); first | exact trivial | exact bitW.skip rfl | exact bitW.use rfl | (refine ⟨?_, ?_⟩))) ?_)
    | (refine RunC.cond ?_)
    | (refine RunC.block ?_)
    | (refine RunC.ret ?_)
    | (refine RunC.exit ?_)
    | (refine RunC.skip ?_)
    | (refine RunC.label ?_)
    | (refine ACallH.inl hm Try.func145 rfl Try.ntmps145 Try.results145 (by kernel_rfl) (by kernel_rfl) (by kernel_rfl) (Nat.le_of_ble_eq_true rfl) ?_)
    | (refine callG.id ?_; first | (refine callG.by (c90 _ _ _ _ _ _ _ _ _ hi ha) ?_) | fail)
    | (refine ACallH.id ?_; first | (refine ACallH.by (c90 _ _ _ _ _ _ _ _ _ hi ha) ?_) | fail)
    | (refine ifH.id ?_; first | (refine ifH_isT (by assumption) ?_) | (refine ifH_isF (by assumption) ?_) | (refine ifH_pos (by assumption) ?_) | (refine ifH_neg (by assumption) ?_) | (refine ifH_isT rfl ?_) | (refine ifH_isF rfl ?_) | (refine ifH_not ?_) | (refine ifH_dec (fun h => ?_) (fun h => ?_)) | (refine ifH_split (fun h => ?_) (fun h => ?_)) | fail)
    | (refine someH.id ?_; first | (refine someH_of rfl ?_) | (refine someH_of (by assumption) ?_) | (refine someH_of azero_27 ?_) | (refine someH_of azero_45 ?_) | (refine someH_of azero_23 ?_) | (refine someH_of azero_60 ?_) | (refine someH_of azero_95 ?_) | (refine someH_of azero_63 ?_) | (refine someH_of azero_116 ?_) | (refine someH_of azero_114 ?_) | (refine someH_of azero_137 ?_) | (refine someH_of azero_57 ?_) | (refine someH_of aslc_61 ?_) | (refine someH_of azero_29 ?_) | (refine someH_of aslc_55 ?_) | (refine someH_of aslc_58 ?_) | (refine someH_of aslc_208 ?_) | (refine someH_of azero_160 ?_) | (refine someH_of azero_168 ?_) | (refine someH_of azero_173 ?_) | (refine someH_of azero_175 ?_) | (refine someH_of azero_3 ?_) | (refine someH_of azero_131 ?_) | (refine someH_of azero_25 ?_) | (refine someH_of azero_96 ?_) | (refine someH_of azero_55 ?_) | (refine someH_of azero_81 ?_) | (refine someH_of aslc_81 ?_) | (refine someH_of azero_4 ?_) | (refine someH_of azero_217 ?_) | (refine someH_of azero_129 ?_) | (refine someH_of azero_61 ?_) | (refine someH_of aslc_206 ?_) | (refine someH_of (aggEqw_27 _ _ _ _) ?_) | (refine someH_of (aggEqw_45 _ _ _ _ _ _ _ _) ?_) | (refine someH_of (aggEqw_116 _ _ _ _) ?_) | (refine someH_of (aggEqw_23 _ _ _ _) ?_) | fail)
    | (refine And.intro rfl ?_)
    | (refine And.intro (by assumption) ?_)
    | (refine And.intro (by decide) ?_)
    | fail
  all_goals (exact FinW.of (.agg [int _, int _, int _, int _]) rfl rfl)
end Go.Proofs.Ytfjeopaaplnoaaa
