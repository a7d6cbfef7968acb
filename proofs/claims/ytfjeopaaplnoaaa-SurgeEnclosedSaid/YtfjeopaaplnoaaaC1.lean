/-
  WHAT THE FUNCTIONS RETURN (1): checks of rules, states and loads, and one step.
-/
import Derived.Test.YtfjeopaaplnoaaaTb
namespace Go.Proofs.Ytfjeopaaplnoaaa
open Go Go.RowKit Av
set_option maxRecDepth 100000
set_option maxHeartbeats 1000000
set_option linter.unusedSimpArgs false

def sq (n : Int) : Int := IntKind.i64.wrap (n * max n (IntKind.i64.wrap (0 - n)))
def flr (n b : Int) : Int := if n.tmod b < 0 then IntKind.i64.wrap (IntKind.i64.wrap (n.tdiv b) - 1) else IntKind.i64.wrap (n.tdiv b)
def stepF (ine thr lvl flow load fr : Int) : Int :=
  min 1000 (max (-1000) (IntKind.i64.wrap (flow - flr (IntKind.i64.wrap (IntKind.i64.wrap (lvl + IntKind.i64.wrap ((IntKind.i64.wrap (fr * sq flow)).tdiv 1000)) + IntKind.i64.wrap ((IntKind.i64.wrap (thr * sq (IntKind.i64.wrap (flow - load)))).tdiv 1000))) ine)))
def stepV (area lvl fl load : Int) : Int := IntKind.i64.wrap (lvl + flr (IntKind.i64.wrap (fl - load)) area)
def wi (n lo hi : Int) : Bool := decide (lo ≤ n) && decide (n ≤ hi)
def un (b : Bool) (e : Int) : Int := if b then 0 else e
def firstL : List Int → Int
  | [] => 0
  | e :: l => if e = 0 then firstL l else e
def stateE (lvl flow : Int) : Int := un (wi lvl (-100000) 100000 && wi flow (-1000) 1000) 2
def loadE (n : Int) : Int := un (wi n 0 1000) 2
def fricE (flo fhi k : Int) : Int := un (wi k flo fhi) 2
def rulesE (ine area flo fhi thr : Int) : Int :=
  if wi ine 1 1000 && (wi area 1 1000 && (wi flo 0 100 && (wi fhi 0 100 && wi thr 0 100))) then
    firstL [un (decide (flo ≤ fhi)) 9, un (decide (IntKind.i64.wrap (IntKind.i64.wrap (IntKind.i64.wrap (2001 * fhi) + IntKind.i64.wrap (4001 * thr)) + 2000) ≤ IntKind.i64.wrap (1000 * ine))) 13] else 2

theorem c92 (n lo hi : Int) : DCall Try.prog 92 [int n, int lo, int hi] (bool (wi n lo hi)) := by
  refine DCall.fnF hm Try.func92 rfl Try.ntmps92 Try.results92 (by kernel_rfl) (by kernel_rfl) (by kernel_rfl) rfl rfl (Nat.le_of_ble_eq_true rfl) ?_
  repeat' (conv => whnf); first
    | (refine RunE.cons ?_)
    | (refine RunD.cons ?_)
    | (refine valW.id ?_; first | (refine valW.int ?_) | (refine valW.bool ?_) | (refine valW.unit ?_) | ((first | refine valW.ptr ?_ ?_ ?_ | refine valW.el ?_ ?_ ?_); focus ((try simp only [List.length_cons, List.length_nil, List.take_succ_cons, List.take_zero, List.drop_succ_cons, List.drop_zero, List.cons_append, List.nil_append, List.append_nil, List.map_cons, List.map_nil, List.set_cons_zero, List.set_cons_succ, Nat.reduceAdd, Nat.reduceSub, Nat.reduceMul, splice, AS.setBox, AS.push, AS.pushes, AS.pushOwn, AS.setOwn, AV.cells]); first | done | rfl); focus (first | exact (rfl : _ = 0) | exact (rfl : _ = 1) | exact (rfl : _ = 2) | exact (rfl : _ = 3) | exact (rfl : _ = 4) | exact (rfl : _ = 5) | exact (rfl : _ = 6) | exact (rfl : _ = 7) | exact (rfl : _ = 8) | exact (rfl : _ = 9) | exact (rfl : _ = 10) | exact (rfl : _ = 11) | rfl)) | (refine valW.agg (cs' := [_, _]) rfl ?_) | (refine valW.agg (cs' := [_, _, _, _, _]) rfl ?_) | (refine valW.agg (cs' := [_, _, _, _]) rfl ?_) | (refine valW.agg (cs' := [_]) rfl ?_) | (refine valW.agg (cs' := [_, _, _]) rfl ?_) | (refine valW.agg (cs' := [_, _, _, _, _, _]) rfl ?_) | (refine valW.agg (cs' := [_, _, _, _, _, _, _]) rfl ?_) | (refine valW.agg (cs' := [_, _, _, _, _, _, _, _]) rfl ?_) | (refine valW.agg (cs' := [_, _, _, _, _, _, _, _, _]) rfl ?_) | (refine valW.agg (cs' := [_, _, _, _, _, _, _, _, _, _]) rfl ?_) | (refine valW.agg (cs' := [_, _, _, _, _, _, _, _, _, _, _]) rfl ?_) | (refine valW.agg (cs' := [_, _, _, _, _, _, _, _, _, _, _, _]) rfl ?_) | ((first | refine valW.agg ?_ ?_ | refine valW.sl ?_ ?_ | refine valW.tup ?_ ?_); focus ((try simp only [List.length_cons, List.length_nil, List.take_succ_cons, List.take_zero, List.drop_succ_cons, List.drop_zero, List.cons_append, List.nil_append, List.append_nil, List.map_cons, List.map_nil, List.set_cons_zero, List.set_cons_succ, Nat.reduceAdd, Nat.reduceSub, Nat.reduceMul, splice, AS.setBox, AS.push, AS.pushes, AS.pushOwn, AS.setOwn, AV.cells]); first | done | rfl)) | (refine valW.eq rfl ?_) | fail)
    | (refine stW.id ?_; first | (refine stW.eq (by first | (simp only [List.length_cons, List.length_nil, List.take_succ_cons, List.take_zero, List.drop_succ_cons, List.drop_zero, List.cons_append, List.nil_append, List.append_nil, List.map_cons, List.map_nil, List.set_cons_zero, List.set_cons_succ, Nat.reduceAdd, Nat.reduceSub, Nat.reduceMul, splice, AS.setBox, AS.push, AS.pushes, AS.pushOwn, AS.setOwn, AV.cells]; done) | (simp only [List.length_cons, List.length_nil, List.take_succ_cons, List.take_zero, List.drop_succ_cons, List.drop_zero, List.cons_append, List.nil_append, List.append_nil, List.map_cons, List.map_nil, List.set_cons_zero, List.set_cons_succ, Nat.reduceAdd, Nat.reduceSub, Nat.reduceMul, splice, AS.setBox, AS.push, AS.pushes, AS.pushOwn, AS.setOwn, AV.cells]; rfl) | rfl) ?_) | (refine stW.mk' ?_))
    | (refine RunE.nil ?_)
    | (refine RunD.nil ?_)
    | (refine RunC.seq ?_)
    | (refine RunC.regE ?_)
    | (refine RunC.regD (by kernel_rfl) ?_)
    | (refine RunC.cond ?_)
    | (refine RunC.block ?_)
    | (refine RunC.ret ?_)
    | (refine RunC.exit ?_)
    | (refine RunC.skip ?_)
    | (refine RunC.label ?_)
    | (refine ifH.id ?_; first | (refine ifH_isT (by assumption) ?_) | (refine ifH_isF (by assumption) ?_) | (refine ifH_pos (by assumption) ?_) | (refine ifH_neg (by assumption) ?_) | (refine ifH_isT rfl ?_) | (refine ifH_isF rfl ?_) | (refine ifH_not ?_) | (refine ifH_dec (fun h => ?_) (fun h => ?_)) | (refine ifH_split (fun h => ?_) (fun h => ?_)) | fail)
    | (refine someH.id ?_; first | (refine someH_of rfl ?_) | (refine someH_of (by assumption) ?_) | (refine someH_of azero_27 ?_) | (refine someH_of azero_45 ?_) | (refine someH_of azero_23 ?_) | (refine someH_of azero_60 ?_) | (refine someH_of azero_95 ?_) | (refine someH_of azero_63 ?_) | (refine someH_of azero_116 ?_) | (refine someH_of azero_114 ?_) | (refine someH_of azero_137 ?_) | (refine someH_of azero_57 ?_) | (refine someH_of aslc_61 ?_) | (refine someH_of azero_29 ?_) | (refine someH_of aslc_55 ?_) | (refine someH_of aslc_58 ?_) | (refine someH_of aslc_208 ?_) | (refine someH_of azero_160 ?_) | (refine someH_of azero_168 ?_) | (refine someH_of azero_173 ?_) | (refine someH_of azero_175 ?_) | (refine someH_of azero_3 ?_) | (refine someH_of azero_131 ?_) | (refine someH_of azero_25 ?_) | (refine someH_of azero_96 ?_) | (refine someH_of azero_55 ?_) | (refine someH_of azero_81 ?_) | (refine someH_of aslc_81 ?_) | (refine someH_of azero_4 ?_) | (refine someH_of azero_217 ?_) | (refine someH_of azero_129 ?_) | (refine someH_of azero_61 ?_) | (refine someH_of aslc_206 ?_) | (refine someH_of (aggEqw_27 _ _ _ _) ?_) | (refine someH_of (aggEqw_45 _ _ _ _ _ _ _ _) ?_) | (refine someH_of (aggEqw_116 _ _ _ _) ?_) | (refine someH_of (aggEqw_23 _ _ _ _) ?_) | fail)
    | (refine And.intro rfl ?_)
    | (refine And.intro (by assumption) ?_)
    | (refine And.intro (by decide) ?_)
    | fail
  all_goals (exact FinW.of (bool _) rfl (by simp [wi, *]))
theorem c93 (b : Bool) (e : Int) : DCall Try.prog 93 [bool b, int e] (int (un b e)) := by
  refine DCall.fnF hm Try.func93 rfl Try.ntmps93 Try.results93 (by kernel_rfl) (by kernel_rfl) (by kernel_rfl) rfl rfl (Nat.le_of_ble_eq_true rfl) ?_
  repeat' (conv => whnf); first
    | (refine RunE.cons ?_)
    | (refine RunD.cons ?_)
    | (refine valW.id ?_; first | (refine valW.int ?_) | (refine valW.bool ?_) | (refine valW.unit ?_) | ((first | refine valW.ptr ?_ ?_ ?_ | refine valW.el ?_ ?_ ?_); focus ((try simp only [List.length_cons, List.length_nil, List.take_succ_cons, List.take_zero, List.drop_succ_cons, List.drop_zero, List.cons_append, List.nil_append, List.append_nil, List.map_cons, List.map_nil, List.set_cons_zero, List.set_cons_succ, Nat.reduceAdd, Nat.reduceSub, Nat.reduceMul, splice, AS.setBox, AS.push, AS.pushes, AS.pushOwn, AS.setOwn, AV.cells]); first | done | rfl); focus (first | exact (rfl : _ = 0) | exact (rfl : _ = 1) | exact (rfl : _ = 2) | exact (rfl : _ = 3) | exact (rfl : _ = 4) | exact (rfl : _ = 5) | exact (rfl : _ = 6) | exact (rfl : _ = 7) | exact (rfl : _ = 8) | exact (rfl : _ = 9) | exact (rfl : _ = 10) | exact (rfl : _ = 11) | rfl)) | (refine valW.agg (cs' := [_, _]) rfl ?_) | (refine valW.agg (cs' := [_, _, _, _, _]) rfl ?_) | (refine valW.agg (cs' := [_, _, _, _]) rfl ?_) | (refine valW.agg (cs' := [_]) rfl ?_) | (refine valW.agg (cs' := [_, _, _]) rfl ?_) | (refine valW.agg (cs' := [_, _, _, _, _, _]) rfl ?_) | (refine valW.agg (cs' := [_, _, _, _, _, _, _]) rfl ?_) | (refine valW.agg (cs' := [_, _, _, _, _, _, _, _]) rfl ?_) | (refine valW.agg (cs' := [_, _, _, _, _, _, _, _, _]) rfl ?_) | (refine valW.agg (cs' := [_, _, _, _, _, _, _, _, _, _]) rfl ?_) | (refine valW.agg (cs' := [_, _, _, _, _, _, _, _, _, _, _]) rfl ?_) | (refine valW.agg (cs' := [_, _, _, _, _, _, _, _, _, _, _, _]) rfl ?_) | ((first | refine valW.agg ?_ ?_ | refine valW.sl ?_ ?_ | refine valW.tup ?_ ?_); focus ((try simp only [List.length_cons, List.length_nil, List.take_succ_cons, List.take_zero, List.drop_succ_cons, List.drop_zero, List.cons_append, List.nil_append, List.append_nil, List.map_cons, List.map_nil, List.set_cons_zero, List.set_cons_succ, Nat.reduceAdd, Nat.reduceSub, Nat.reduceMul, splice, AS.setBox, AS.push, AS.pushes, AS.pushOwn, AS.setOwn, AV.cells]); first | done | rfl)) | (refine valW.eq rfl ?_) | fail)
    | (refine stW.id ?_; first | (refine stW.eq (by first | (simp only [List.length_cons, List.length_nil, List.take_succ_cons, List.take_zero, List.drop_succ_cons, List.drop_zero, List.cons_append, List.nil_append, List.append_nil, List.map_cons, List.map_nil, List.set_cons_zero, List.set_cons_succ, Nat.reduceAdd, Nat.reduceSub, Nat.reduceMul, splice, AS.setBox, AS.push, AS.pushes, AS.pushOwn, AS.setOwn, AV.cells]; done) | (simp only [List.length_cons, List.length_nil, List.take_succ_cons, List.take_zero, List.drop_succ_cons, List.drop_zero, List.cons_append, List.nil_append, List.append_nil, List.map_cons, List.map_nil, List.set_cons_zero, List.set_cons_succ, Nat.reduceAdd, Nat.reduceSub, Nat.reduceMul, splice, AS.setBox, AS.push, AS.pushes, AS.pushOwn, AS.setOwn, AV.cells]; rfl) | rfl) ?_) | (refine stW.mk' ?_))
    | (refine RunE.nil ?_)
    | (refine RunD.nil ?_)
    | (refine RunC.seq ?_)
    | (refine RunC.regE ?_)
    | (refine RunC.regD (by kernel_rfl) ?_)
    | (refine RunC.cond ?_)
    | (refine RunC.block ?_)
    | (refine RunC.ret ?_)
    | (refine RunC.exit ?_)
    | (refine RunC.skip ?_)
    | (refine RunC.label ?_)
    | (refine ifH.id ?_; first | (refine ifH_isT (by assumption) ?_) | (refine ifH_isF (by assumption) ?_) | (refine ifH_pos (by assumption) ?_) | (refine ifH_neg (by assumption) ?_) | (refine ifH_isT rfl ?_) | (refine ifH_isF rfl ?_) | (refine ifH_not ?_) | (refine ifH_dec (fun h => ?_) (fun h => ?_)) | (refine ifH_split (fun h => ?_) (fun h => ?_)) | fail)
    | (refine someH.id ?_; first | (refine someH_of rfl ?_) | (refine someH_of (by assumption) ?_) | (refine someH_of azero_27 ?_) | (refine someH_of azero_45 ?_) | (refine someH_of azero_23 ?_) | (refine someH_of azero_60 ?_) | (refine someH_of azero_95 ?_) | (refine someH_of azero_63 ?_) | (refine someH_of azero_116 ?_) | (refine someH_of azero_114 ?_) | (refine someH_of azero_137 ?_) | (refine someH_of azero_57 ?_) | (refine someH_of aslc_61 ?_) | (refine someH_of azero_29 ?_) | (refine someH_of aslc_55 ?_) | (refine someH_of aslc_58 ?_) | (refine someH_of aslc_208 ?_) | (refine someH_of azero_160 ?_) | (refine someH_of azero_168 ?_) | (refine someH_of azero_173 ?_) | (refine someH_of azero_175 ?_) | (refine someH_of azero_3 ?_) | (refine someH_of azero_131 ?_) | (refine someH_of azero_25 ?_) | (refine someH_of azero_96 ?_) | (refine someH_of azero_55 ?_) | (refine someH_of azero_81 ?_) | (refine someH_of aslc_81 ?_) | (refine someH_of azero_4 ?_) | (refine someH_of azero_217 ?_) | (refine someH_of azero_129 ?_) | (refine someH_of azero_61 ?_) | (refine someH_of aslc_206 ?_) | (refine someH_of (aggEqw_27 _ _ _ _) ?_) | (refine someH_of (aggEqw_45 _ _ _ _ _ _ _ _) ?_) | (refine someH_of (aggEqw_116 _ _ _ _) ?_) | (refine someH_of (aggEqw_23 _ _ _ _) ?_) | fail)
    | (refine And.intro rfl ?_)
    | (refine And.intro (by assumption) ?_)
    | (refine And.intro (by decide) ?_)
    | fail
  all_goals (exact FinW.of (int _) rfl (by simp [un, *]))
theorem c140 (n : Int) : DCall Try.prog 140 [int n] (int (sq n)) := by
  refine DCall.fnF hm Try.func140 rfl Try.ntmps140 Try.results140 (by kernel_rfl) (by kernel_rfl) (by kernel_rfl) rfl rfl (Nat.le_of_ble_eq_true rfl) ?_
  repeat' (conv => whnf); first
    | (refine RunE.cons ?_)
    | (refine RunD.cons ?_)
    | (refine valW.id ?_; first | (refine valW.int ?_) | (refine valW.bool ?_) | (refine valW.unit ?_) | ((first | refine valW.ptr ?_ ?_ ?_ | refine valW.el ?_ ?_ ?_); focus ((try simp only [List.length_cons, List.length_nil, List.take_succ_cons, List.take_zero, List.drop_succ_cons, List.drop_zero, List.cons_append, List.nil_append, List.append_nil, List.map_cons, List.map_nil, List.set_cons_zero, List.set_cons_succ, Nat.reduceAdd, Nat.reduceSub, Nat.reduceMul, splice, AS.setBox, AS.push, AS.pushes, AS.pushOwn, AS.setOwn, AV.cells]); first | done | rfl); focus (first | exact (rfl : _ = 0) | exact (rfl : _ = 1) | exact (rfl : _ = 2) | exact (rfl : _ = 3) | exact (rfl : _ = 4) | exact (rfl : _ = 5) | exact (rfl : _ = 6) | exact (rfl : _ = 7) | exact (rfl : _ = 8) | exact (rfl : _ = 9) | exact (rfl : _ = 10) | exact (rfl : _ = 11) | rfl)) | (refine valW.agg (cs' := [_, _]) rfl ?_) | (refine valW.agg (cs' := [_, _, _, _, _]) rfl ?_) | (refine valW.agg (cs' := [_, _, _, _]) rfl ?_) | (refine valW.agg (cs' := [_]) rfl ?_) | (refine valW.agg (cs' := [_, _, _]) rfl ?_) | (refine valW.agg (cs' := [_, _, _, _, _, _]) rfl ?_) | (refine valW.agg (cs' := [_, _, _, _, _, _, _]) rfl ?_) | (refine valW.agg (cs' := [_, _, _, _, _, _, _, _]) rfl ?_) | (refine valW.agg (cs' := [_, _, _, _, _, _, _, _, _]) rfl ?_) | (refine valW.agg (cs' := [_, _, _, _, _, _, _, _, _, _]) rfl ?_) | (refine valW.agg (cs' := [_, _, _, _, _, _, _, _, _, _, _]) rfl ?_) | (refine valW.agg (cs' := [_, _, _, _, _, _, _, _, _, _, _, _]) rfl ?_) | ((first | refine valW.agg ?_ ?_ | refine valW.sl ?_ ?_ | refine valW.tup ?_ ?_); focus ((try simp only [List.length_cons, List.length_nil, List.take_succ_cons, List.take_zero, List.drop_succ_cons, List.drop_zero, List.cons_append, List.nil_append, List.append_nil, List.map_cons, List.map_nil, List.set_cons_zero, List.set_cons_succ, Nat.reduceAdd, Nat.reduceSub, Nat.reduceMul, splice, AS.setBox, AS.push, AS.pushes, AS.pushOwn, AS.setOwn, AV.cells]); first | done | rfl)) | (refine valW.eq rfl ?_) | fail)
    | (refine stW.id ?_; first | (refine stW.eq (by first | (simp only [List.length_cons, List.length_nil, List.take_succ_cons, List.take_zero, List.drop_succ_cons, List.drop_zero, List.cons_append, List.nil_append, List.append_nil, List.map_cons, List.map_nil, List.set_cons_zero, List.set_cons_succ, Nat.reduceAdd, Nat.reduceSub, Nat.reduceMul, splice, AS.setBox, AS.push, AS.pushes, AS.pushOwn, AS.setOwn, AV.cells]; done) | (simp only [List.length_cons, List.length_nil, List.take_succ_cons, List.take_zero, List.drop_succ_cons, List.drop_zero, List.cons_append, List.nil_append, List.append_nil, List.map_cons, List.map_nil, List.set_cons_zero, List.set_cons_succ, Nat.reduceAdd, Nat.reduceSub, Nat.reduceMul, splice, AS.setBox, AS.push, AS.pushes, AS.pushOwn, AS.setOwn, AV.cells]; rfl) | rfl) ?_) | (refine stW.mk' ?_))
    | (refine RunE.nil ?_)
    | (refine RunD.nil ?_)
    | (refine RunC.seq ?_)
    | (refine RunC.regE ?_)
    | (refine RunC.regD (by kernel_rfl) ?_)
    | (refine RunC.cond ?_)
    | (refine RunC.block ?_)
    | (refine RunC.ret ?_)
    | (refine RunC.exit ?_)
    | (refine RunC.skip ?_)
    | (refine RunC.label ?_)
    | (refine ifH.id ?_; first | (refine ifH_isT (by assumption) ?_) | (refine ifH_isF (by assumption) ?_) | (refine ifH_pos (by assumption) ?_) | (refine ifH_neg (by assumption) ?_) | (refine ifH_isT rfl ?_) | (refine ifH_isF rfl ?_) | (refine ifH_not ?_) | (refine ifH_dec (fun h => ?_) (fun h => ?_)) | (refine ifH_split (fun h => ?_) (fun h => ?_)) | fail)
    | (refine someH.id ?_; first | (refine someH_of rfl ?_) | (refine someH_of (by assumption) ?_) | (refine someH_of azero_27 ?_) | (refine someH_of azero_45 ?_) | (refine someH_of azero_23 ?_) | (refine someH_of azero_60 ?_) | (refine someH_of azero_95 ?_) | (refine someH_of azero_63 ?_) | (refine someH_of azero_116 ?_) | (refine someH_of azero_114 ?_) | (refine someH_of azero_137 ?_) | (refine someH_of azero_57 ?_) | (refine someH_of aslc_61 ?_) | (refine someH_of azero_29 ?_) | (refine someH_of aslc_55 ?_) | (refine someH_of aslc_58 ?_) | (refine someH_of aslc_208 ?_) | (refine someH_of azero_160 ?_) | (refine someH_of azero_168 ?_) | (refine someH_of azero_173 ?_) | (refine someH_of azero_175 ?_) | (refine someH_of azero_3 ?_) | (refine someH_of azero_131 ?_) | (refine someH_of azero_25 ?_) | (refine someH_of azero_96 ?_) | (refine someH_of azero_55 ?_) | (refine someH_of azero_81 ?_) | (refine someH_of aslc_81 ?_) | (refine someH_of azero_4 ?_) | (refine someH_of azero_217 ?_) | (refine someH_of azero_129 ?_) | (refine someH_of azero_61 ?_) | (refine someH_of aslc_206 ?_) | (refine someH_of (aggEqw_27 _ _ _ _) ?_) | (refine someH_of (aggEqw_45 _ _ _ _ _ _ _ _) ?_) | (refine someH_of (aggEqw_116 _ _ _ _) ?_) | (refine someH_of (aggEqw_23 _ _ _ _) ?_) | fail)
    | (refine And.intro rfl ?_)
    | (refine And.intro (by assumption) ?_)
    | (refine And.intro (by decide) ?_)
    | fail
  all_goals (exact FinW.of (int _) rfl rfl)
theorem c141 (n b : Int) (hb : b ≠ 0) : DCall Try.prog 141 [int n, int b] (int (flr n b)) := by
  refine DCall.fnF hm Try.func141 rfl Try.ntmps141 Try.results141 (by kernel_rfl) (by kernel_rfl) (by kernel_rfl) rfl rfl (Nat.le_of_ble_eq_true rfl) ?_
  repeat' (conv => whnf); first
    | (refine RunE.cons ?_)
    | (refine RunD.cons ?_)
    | (refine valW.id ?_; first | (refine valW.int ?_) | (refine valW.bool ?_) | (refine valW.unit ?_) | ((first | refine valW.ptr ?_ ?_ ?_ | refine valW.el ?_ ?_ ?_); focus ((try simp only [List.length_cons, List.length_nil, List.take_succ_cons, List.take_zero, List.drop_succ_cons, List.drop_zero, List.cons_append, List.nil_append, List.append_nil, List.map_cons, List.map_nil, List.set_cons_zero, List.set_cons_succ, Nat.reduceAdd, Nat.reduceSub, Nat.reduceMul, splice, AS.setBox, AS.push, AS.pushes, AS.pushOwn, AS.setOwn, AV.cells]); first | done | rfl); focus (first | exact (rfl : _ = 0) | exact (rfl : _ = 1) | exact (rfl : _ = 2) | exact (rfl : _ = 3) | exact (rfl : _ = 4) | exact (rfl : _ = 5) | exact (rfl : _ = 6) | exact (rfl : _ = 7) | exact (rfl : _ = 8) | exact (rfl : _ = 9) | exact (rfl : _ = 10) | exact (rfl : _ = 11) | rfl)) | (refine valW.agg (cs' := [_, _]) rfl ?_) | (refine valW.agg (cs' := [_, _, _, _, _]) rfl ?_) | (refine valW.agg (cs' := [_, _, _, _]) rfl ?_) | (refine valW.agg (cs' := [_]) rfl ?_) | (refine valW.agg (cs' := [_, _, _]) rfl ?_) | (refine valW.agg (cs' := [_, _, _, _, _, _]) rfl ?_) | (refine valW.agg (cs' := [_, _, _, _, _, _, _]) rfl ?_) | (refine valW.agg (cs' := [_, _, _, _, _, _, _, _]) rfl ?_) | (refine valW.agg (cs' := [_, _, _, _, _, _, _, _, _]) rfl ?_) | (refine valW.agg (cs' := [_, _, _, _, _, _, _, _, _, _]) rfl ?_) | (refine valW.agg (cs' := [_, _, _, _, _, _, _, _, _, _, _]) rfl ?_) | (refine valW.agg (cs' := [_, _, _, _, _, _, _, _, _, _, _, _]) rfl ?_) | ((first | refine valW.agg ?_ ?_ | refine valW.sl ?_ ?_ | refine valW.tup ?_ ?_); focus ((try simp only [List.length_cons, List.length_nil, List.take_succ_cons, List.take_zero, List.drop_succ_cons, List.drop_zero, List.cons_append, List.nil_append, List.append_nil, List.map_cons, List.map_nil, List.set_cons_zero, List.set_cons_succ, Nat.reduceAdd, Nat.reduceSub, Nat.reduceMul, splice, AS.setBox, AS.push, AS.pushes, AS.pushOwn, AS.setOwn, AV.cells]); first | done | rfl)) | (refine valW.eq rfl ?_) | fail)
    | (refine stW.id ?_; first | (refine stW.eq (by first | (simp only [List.length_cons, List.length_nil, List.take_succ_cons, List.take_zero, List.drop_succ_cons, List.drop_zero, List.cons_append, List.nil_append, List.append_nil, List.map_cons, List.map_nil, List.set_cons_zero, List.set_cons_succ, Nat.reduceAdd, Nat.reduceSub, Nat.reduceMul, splice, AS.setBox, AS.push, AS.pushes, AS.pushOwn, AS.setOwn, AV.cells]; done) | (simp only [List.length_cons, List.length_nil, List.take_succ_cons, List.take_zero, List.drop_succ_cons, List.drop_zero, List.cons_append, List.nil_append, List.append_nil, List.map_cons, List.map_nil, List.set_cons_zero, List.set_cons_succ, Nat.reduceAdd, Nat.reduceSub, Nat.reduceMul, splice, AS.setBox, AS.push, AS.pushes, AS.pushOwn, AS.setOwn, AV.cells]; rfl) | rfl) ?_) | (refine stW.mk' ?_))
    | (refine RunE.nil ?_)
    | (refine RunD.nil ?_)
    | (refine RunC.seq ?_)
    | (refine RunC.regE ?_)
    | (refine RunC.regD (by kernel_rfl) ?_)
    | (refine RunC.cond ?_)
    | (refine RunC.block ?_)
    | (refine RunC.ret ?_)
    | (refine RunC.exit ?_)
    | (refine RunC.skip ?_)
    | (refine RunC.label ?_)
    | (refine ifH.id ?_; first | (refine ifH_isT (by assumption) ?_) | (refine ifH_isF (by assumption) ?_) | (refine ifH_pos (by assumption) ?_) | (refine ifH_neg (by assumption) ?_) | (refine ifH_isT rfl ?_) | (refine ifH_isF rfl ?_) | (refine ifH_not ?_) | (refine ifH_dec (fun h => ?_) (fun h => ?_)) | (refine ifH_split (fun h => ?_) (fun h => ?_)) | fail)
    | (refine someH.id ?_; first | (refine someH_of rfl ?_) | (refine someH_of (by assumption) ?_) | (refine someH_of azero_27 ?_) | (refine someH_of azero_45 ?_) | (refine someH_of azero_23 ?_) | (refine someH_of azero_60 ?_) | (refine someH_of azero_95 ?_) | (refine someH_of azero_63 ?_) | (refine someH_of azero_116 ?_) | (refine someH_of azero_114 ?_) | (refine someH_of azero_137 ?_) | (refine someH_of azero_57 ?_) | (refine someH_of aslc_61 ?_) | (refine someH_of azero_29 ?_) | (refine someH_of aslc_55 ?_) | (refine someH_of aslc_58 ?_) | (refine someH_of aslc_208 ?_) | (refine someH_of azero_160 ?_) | (refine someH_of azero_168 ?_) | (refine someH_of azero_173 ?_) | (refine someH_of azero_175 ?_) | (refine someH_of azero_3 ?_) | (refine someH_of azero_131 ?_) | (refine someH_of azero_25 ?_) | (refine someH_of azero_96 ?_) | (refine someH_of azero_55 ?_) | (refine someH_of azero_81 ?_) | (refine someH_of aslc_81 ?_) | (refine someH_of azero_4 ?_) | (refine someH_of azero_217 ?_) | (refine someH_of azero_129 ?_) | (refine someH_of azero_61 ?_) | (refine someH_of aslc_206 ?_) | (refine someH_of (aggEqw_27 _ _ _ _) ?_) | (refine someH_of (aggEqw_45 _ _ _ _ _ _ _ _) ?_) | (refine someH_of (aggEqw_116 _ _ _ _) ?_) | (refine someH_of (aggEqw_23 _ _ _ _) ?_) | fail)
    | (refine And.intro rfl ?_)
    | (refine And.intro (by assumption) ?_)
    | (refine And.intro (by decide) ?_)
    | fail
  all_goals (exact FinW.of (int _) rfl (by simp [flr, *]))
theorem c142 (n : Int) : DCall Try.prog 142 [int n] (bool (wi n (-100000) 100000)) := by
  refine DCall.fnF hm Try.func142 rfl Try.ntmps142 Try.results142 (by kernel_rfl) (by kernel_rfl) (by kernel_rfl) rfl rfl (Nat.le_of_ble_eq_true rfl) ?_
  repeat' (conv => whnf); first
    | (refine RunE.cons ?_)
    | (refine RunD.cons ?_)
    | (refine valW.id ?_; first | (refine valW.int ?_) | (refine valW.bool ?_) | (refine valW.unit ?_) | ((first | refine valW.ptr ?_ ?_ ?_ | refine valW.el ?_ ?_ ?_); focus ((try simp only [List.length_cons, List.length_nil, List.take_succ_cons, List.take_zero, List.drop_succ_cons, List.drop_zero, List.cons_append, List.nil_append, List.append_nil, List.map_cons, List.map_nil, List.set_cons_zero, List.set_cons_succ, Nat.reduceAdd, Nat.reduceSub, Nat.reduceMul, splice, AS.setBox, AS.push, AS.pushes, AS.pushOwn, AS.setOwn, AV.cells]); first | done | rfl); focus (first | exact (rfl : _ = 0) | exact (rfl : _ = 1) | exact (rfl : _ = 2) | exact (rfl : _ = 3) | exact (rfl : _ = 4) | exact (rfl : _ = 5) | exact (rfl : _ = 6) | exact (rfl : _ = 7) | exact (rfl : _ = 8) | exact (rfl : _ = 9) | exact (rfl : _ = 10) | exact (rfl : _ = 11) | rfl)) | (refine valW.agg (cs' := [_, _]) rfl ?_) | (refine valW.agg (cs' := [_, _, _, _, _]) rfl ?_) | (refine valW.agg (cs' := [_, _, _, _]) rfl ?_) | (refine valW.agg (cs' := [_]) rfl ?_) | (refine valW.agg (cs' := [_, _, _]) rfl ?_) | (refine valW.agg (cs' := [_, _, _, _, _, _]) rfl ?_) | (refine valW.agg (cs' := [_, _, _, _, _, _, _]) rfl ?_) | (refine valW.agg (cs' := [_, _, _, _, _, _, _, _]) rfl ?_) | (refine valW.agg (cs' := [_, _, _, _, _, _, _, _, _]) rfl ?_) | (refine valW.agg (cs' := [_, _, _, _, _, _, _, _, _, _]) rfl ?_) | (refine valW.agg (cs' := [_, _, _, _, _, _, _, _, _, _, _]) rfl ?_) | (refine valW.agg (cs' := [_, _, _, _, _, _, _, _, _, _, _, _]) rfl ?_) | ((first | refine valW.agg ?_ ?_ | refine valW.sl ?_ ?_ | refine valW.tup ?_ ?_); focus ((try simp only [List.length_cons, List.length_nil, List.take_succ_cons, List.take_zero, List.drop_succ_cons, List.drop_zero, List.cons_append, List.nil_append, List.append_nil, List.map_cons, List.map_nil, List.set_cons_zero, List.set_cons_succ, Nat.reduceAdd, Nat.reduceSub, Nat.reduceMul, splice, AS.setBox, AS.push, AS.pushes, AS.pushOwn, AS.setOwn, AV.cells]); first | done | rfl)) | (refine valW.eq rfl ?_) | fail)
    | (refine stW.id ?_; first | (refine stW.eq (by first | (simp only [List.length_cons, List.length_nil, List.take_succ_cons, List.take_zero, List.drop_succ_cons, List.drop_zero, List.cons_append, List.nil_append, List.append_nil, List.map_cons, List.map_nil, List.set_cons_zero, List.set_cons_succ, Nat.reduceAdd, Nat.reduceSub, Nat.reduceMul, splice, AS.setBox, AS.push, AS.pushes, AS.pushOwn, AS.setOwn, AV.cells]; done) | (simp only [List.length_cons, List.length_nil, List.take_succ_cons, List.take_zero, List.drop_succ_cons, List.drop_zero, List.cons_append, List.nil_append, List.append_nil, List.map_cons, List.map_nil, List.set_cons_zero, List.set_cons_succ, Nat.reduceAdd, Nat.reduceSub, Nat.reduceMul, splice, AS.setBox, AS.push, AS.pushes, AS.pushOwn, AS.setOwn, AV.cells]; rfl) | rfl) ?_) | (refine stW.mk' ?_))
    | (refine RunE.nil ?_)
    | (refine RunD.nil ?_)
    | (refine RunC.seq ?_)
    | (refine RunC.regE ?_)
    | (refine RunC.regD (by kernel_rfl) ?_)
    | (refine RunC.cond ?_)
    | (refine RunC.block ?_)
    | (refine RunC.ret ?_)
    | (refine RunC.exit ?_)
    | (refine RunC.skip ?_)
    | (refine RunC.label ?_)
    | (refine callG.id ?_; first | (refine callG.by (c92 _ _ _) ?_) | fail)
    | (refine ACallH.id ?_; first | (refine ACallH.by (c92 _ _ _) ?_) | fail)
    | (refine ifH.id ?_; first | (refine ifH_isT (by assumption) ?_) | (refine ifH_isF (by assumption) ?_) | (refine ifH_pos (by assumption) ?_) | (refine ifH_neg (by assumption) ?_) | (refine ifH_isT rfl ?_) | (refine ifH_isF rfl ?_) | (refine ifH_not ?_) | (refine ifH_dec (fun h => ?_) (fun h => ?_)) | (refine ifH_split (fun h => ?_) (fun h => ?_)) | fail)
    | (refine someH.id ?_; first | (refine someH_of rfl ?_) | (refine someH_of (by assumption) ?_) | (refine someH_of azero_27 ?_) | (refine someH_of azero_45 ?_) | (refine someH_of azero_23 ?_) | (refine someH_of azero_60 ?_) | (refine someH_of azero_95 ?_) | (refine someH_of azero_63 ?_) | (refine someH_of azero_116 ?_) | (refine someH_of azero_114 ?_) | (refine someH_of azero_137 ?_) | (refine someH_of azero_57 ?_) | (refine someH_of aslc_61 ?_) | (refine someH_of azero_29 ?_) | (refine someH_of aslc_55 ?_) | (refine someH_of aslc_58 ?_) | (refine someH_of aslc_208 ?_) | (refine someH_of azero_160 ?_) | (refine someH_of azero_168 ?_) | (refine someH_of azero_173 ?_) | (refine someH_of azero_175 ?_) | (refine someH_of azero_3 ?_) | (refine someH_of azero_131 ?_) | (refine someH_of azero_25 ?_) | (refine someH_of azero_96 ?_) | (refine someH_of azero_55 ?_) | (refine someH_of azero_81 ?_) | (refine someH_of aslc_81 ?_) | (refine someH_of azero_4 ?_) | (refine someH_of azero_217 ?_) | (refine someH_of azero_129 ?_) | (refine someH_of azero_61 ?_) | (refine someH_of aslc_206 ?_) | (refine someH_of (aggEqw_27 _ _ _ _) ?_) | (refine someH_of (aggEqw_45 _ _ _ _ _ _ _ _) ?_) | (refine someH_of (aggEqw_116 _ _ _ _) ?_) | (refine someH_of (aggEqw_23 _ _ _ _) ?_) | fail)
    | (refine And.intro rfl ?_)
    | (refine And.intro (by assumption) ?_)
    | (refine And.intro (by decide) ?_)
    | fail
  all_goals (exact FinW.of (bool _) rfl rfl)
theorem c143 (n : Int) : DCall Try.prog 143 [int n] (bool (wi n (-1000) 1000)) := by
  refine DCall.fnF hm Try.func143 rfl Try.ntmps143 Try.results143 (by kernel_rfl) (by kernel_rfl) (by kernel_rfl) rfl rfl (Nat.le_of_ble_eq_true rfl) ?_
  repeat' (conv => whnf); first
    | (refine RunE.cons ?_)
    | (refine RunD.cons ?_)
    | (refine valW.id ?_; first | (refine valW.int ?_) | (refine valW.bool ?_) | (refine valW.unit ?_) | ((first | refine valW.ptr ?_ ?_ ?_ | refine valW.el ?_ ?_ ?_); focus ((try simp only [List.length_cons, List.length_nil, List.take_succ_cons, List.take_zero, List.drop_succ_cons, List.drop_zero, List.cons_append, List.nil_append, List.append_nil, List.map_cons, List.map_nil, List.set_cons_zero, List.set_cons_succ, Nat.reduceAdd, Nat.reduceSub, Nat.reduceMul, splice, AS.setBox, AS.push, AS.pushes, AS.pushOwn, AS.setOwn, AV.cells]); first | done | rfl); focus (first | exact (rfl : _ = 0) | exact (rfl : _ = 1) | exact (rfl : _ = 2) | exact (rfl : _ = 3) | exact (rfl : _ = 4) | exact (rfl : _ = 5) | exact (rfl : _ = 6) | exact (rfl : _ = 7) | exact (rfl : _ = 8) | exact (rfl : _ = 9) | exact (rfl : _ = 10) | exact (rfl : _ = 11) | rfl)) | (refine valW.agg (cs' := [_, _]) rfl ?_) | (refine valW.agg (cs' := [_, _, _, _, _]) rfl ?_) | (refine valW.agg (cs' := [_, _, _, _]) rfl ?_) | (refine valW.agg (cs' := [_]) rfl ?_) | (refine valW.agg (cs' := [_, _, _]) rfl ?_) | (refine valW.agg (cs' := [_, _, _, _, _, _]) rfl ?_) | (refine valW.agg (cs' := [_, _, _, _, _, _, _]) rfl ?_) | (refine valW.agg (cs' := [_, _, _, _, _, _, _, _]) rfl ?_) | (refine valW.agg (cs' := [_, _, _, _, _, _, _, _, _]) rfl ?_) | (refine valW.agg (cs' := [_, _, _, _, _, _, _, _, _, _]) rfl ?_) | (refine valW.agg (cs' := [_, _, _, _, _, _, _, _, _, _, _]) rfl ?_) | (refine valW.agg (cs' := [_, _, _, _, _, _, _, _, _, _, _, _]) rfl ?_) | ((first | refine valW.agg ?_ ?_ | refine valW.sl ?_ ?_ | refine valW.tup ?_ ?_); focus ((try simp only [List.length_cons, List.length_nil, List.take_succ_cons, List.take_zero, List.drop_succ_cons, List.drop_zero, List.cons_append, List.nil_append, List.append_nil, List.map_cons, List.map_nil, List.set_cons_zero, List.set_cons_succ, Nat.reduceAdd, Nat.reduceSub, Nat.reduceMul, splice, AS.setBox, AS.push, AS.pushes, AS.pushOwn, AS.setOwn, AV.cells]); first | done | rfl)) | (refine valW.eq rfl ?_) | fail)
    | (refine stW.id ?_; first | (refine stW.eq (by first | (simp only [List.length_cons, List.length_nil, List.take_succ_cons, List.take_zero, List.drop_succ_cons, List.drop_zero, List.cons_append, List.nil_append, List.append_nil, List.map_cons, List.map_nil, List.set_cons_zero, List.set_cons_succ, Nat.reduceAdd, Nat.reduceSub, Nat.reduceMul, splice, AS.setBox, AS.push, AS.pushes, AS.pushOwn, AS.setOwn, AV.cells]; done) | (simp only [List.length_cons, List.length_nil, List.take_succ_cons, List.take_zero, List.drop_succ_cons, List.drop_zero, List.cons_append, List.nil_append, List.append_nil, List.map_cons, List.map_nil, List.set_cons_zero, List.set_cons_succ, Nat.reduceAdd, Nat.reduceSub, Nat.reduceMul, splice, AS.setBox, AS.push, AS.pushes, AS.pushOwn, AS.setOwn, AV.cells]; rfl) | rfl) ?_) | (refine stW.mk' ?_))
    | (refine RunE.nil ?_)
    | (refine RunD.nil ?_)
    | (refine RunC.seq ?_)
    | (refine RunC.regE ?_)
    | (refine RunC.regD (by kernel_rfl) ?_)
    | (refine RunC.cond ?_)
    | (refine RunC.block ?_)
    | (refine RunC.ret ?_)
    | (refine RunC.exit ?_)
    | (refine RunC.skip ?_)
    | (refine RunC.label ?_)
    | (refine callG.id ?_; first | (refine callG.by (c92 _ _ _) ?_) | fail)
    | (refine ACallH.id ?_; first | (refine ACallH.by (c92 _ _ _) ?_) | fail)
    | (refine ifH.id ?_; first | (refine ifH_isT (by assumption) ?_) | (refine ifH_isF (by assumption) ?_) | (refine ifH_pos (by assumption) ?_) | (refine ifH_neg (by assumption) ?_) | (refine ifH_isT rfl ?_) | (refine ifH_isF rfl ?_) | (refine ifH_not ?_) | (refine ifH_dec (fun h => ?_) (fun h => ?_)) | (refine ifH_split (fun h => ?_) (fun h => ?_)) | fail)
    | (refine someH.id ?_; first | (refine someH_of rfl ?_) | (refine someH_of (by assumption) ?_) | (refine someH_of azero_27 ?_) | (refine someH_of azero_45 ?_) | (refine someH_of azero_23 ?_) | (refine someH_of azero_60 ?_) | (refine someH_of azero_95 ?_) | (refine someH_of azero_63 ?_) | (refine someH_of azero_116 ?_) | (refine someH_of azero_114 ?_) | (refine someH_of azero_137 ?_) | (refine someH_of azero_57 ?_) | (refine someH_of aslc_61 ?_) | (refine someH_of azero_29 ?_) | (refine someH_of aslc_55 ?_) | (refine someH_of aslc_58 ?_) | (refine someH_of aslc_208 ?_) | (refine someH_of azero_160 ?_) | (refine someH_of azero_168 ?_) | (refine someH_of azero_173 ?_) | (refine someH_of azero_175 ?_) | (refine someH_of azero_3 ?_) | (refine someH_of azero_131 ?_) | (refine someH_of azero_25 ?_) | (refine someH_of azero_96 ?_) | (refine someH_of azero_55 ?_) | (refine someH_of azero_81 ?_) | (refine someH_of aslc_81 ?_) | (refine someH_of azero_4 ?_) | (refine someH_of azero_217 ?_) | (refine someH_of azero_129 ?_) | (refine someH_of azero_61 ?_) | (refine someH_of aslc_206 ?_) | (refine someH_of (aggEqw_27 _ _ _ _) ?_) | (refine someH_of (aggEqw_45 _ _ _ _ _ _ _ _) ?_) | (refine someH_of (aggEqw_116 _ _ _ _) ?_) | (refine someH_of (aggEqw_23 _ _ _ _) ?_) | fail)
    | (refine And.intro rfl ?_)
    | (refine And.intro (by assumption) ?_)
    | (refine And.intro (by decide) ?_)
    | fail
  all_goals (exact FinW.of (bool _) rfl rfl)
theorem c139 (n : Int) : DCall Try.prog 139 [int n] (bool (wi n 0 1000)) := by
  refine DCall.fnF hm Try.func139 rfl Try.ntmps139 Try.results139 (by kernel_rfl) (by kernel_rfl) (by kernel_rfl) rfl rfl (Nat.le_of_ble_eq_true rfl) ?_
  repeat' (conv => whnf); first
    | (refine RunE.cons ?_)
    | (refine RunD.cons ?_)
    | (refine valW.id ?_; first | (refine valW.int ?_) | (refine valW.bool ?_) | (refine valW.unit ?_) | ((first | refine valW.ptr ?_ ?_ ?_ | refine valW.el ?_ ?_ ?_); focus ((try simp only [List.length_cons, List.length_nil, List.take_succ_cons, List.take_zero, List.drop_succ_cons, List.drop_zero, List.cons_append, List.nil_append, List.append_nil, List.map_cons, List.map_nil, List.set_cons_zero, List.set_cons_succ, Nat.reduceAdd, Nat.reduceSub, Nat.reduceMul, splice, AS.setBox, AS.push, AS.pushes, AS.pushOwn, AS.setOwn, AV.cells]); first | done | rfl); focus (first | exact (rfl : _ = 0) | exact (rfl : _ = 1) | exact (rfl : _ = 2) | exact (rfl : _ = 3) | exact (rfl : _ = 4) | exact (rfl : _ = 5) | exact (rfl : _ = 6) | exact (rfl : _ = 7) | exact (rfl : _ = 8) | exact (rfl : _ = 9) | exact (rfl : _ = 10) | exact (rfl : _ = 11) | rfl)) | (refine valW.agg (cs' := [_, _]) rfl ?_) | (refine valW.agg (cs' := [_, _, _, _, _]) rfl ?_) | (refine valW.agg (cs' := [_, _, _, _]) rfl ?_) | (refine valW.agg (cs' := [_]) rfl ?_) | (refine valW.agg (cs' := [_, _, _]) rfl ?_) | (refine valW.agg (cs' := [_, _, _, _, _, _]) rfl ?_) | (refine valW.agg (cs' := [_, _, _, _, _, _, _]) rfl ?_) | (refine valW.agg (cs' := [_, _, _, _, _, _, _, _]) rfl ?_) | (refine valW.agg (cs' := [_, _, _, _, _, _, _, _, _]) rfl ?_) | (refine valW.agg (cs' := [_, _, _, _, _, _, _, _, _, _]) rfl ?_) | (refine valW.agg (cs' := [_, _, _, _, _, _, _, _, _, _, _]) rfl ?_) | (refine valW.agg (cs' := [_, _, _, _, _, _, _, _, _, _, _, _]) rfl ?_) | ((first | refine valW.agg ?_ ?_ | refine valW.sl ?_ ?_ | refine valW.tup ?_ ?_); focus ((try simp only [List.length_cons, List.length_nil, List.take_succ_cons, List.take_zero, List.drop_succ_cons, List.drop_zero, List.cons_append, List.nil_append, List.append_nil, List.map_cons, List.map_nil, List.set_cons_zero, List.set_cons_succ, Nat.reduceAdd, Nat.reduceSub, Nat.reduceMul, splice, AS.setBox, AS.push, AS.pushes, AS.pushOwn, AS.setOwn, AV.cells]); first | done | rfl)) | (refine valW.eq rfl ?_) | fail)
    | (refine stW.id ?_; first | (refine stW.eq (by first | (simp only [List.length_cons, List.length_nil, List.take_succ_cons, List.take_zero, List.drop_succ_cons, List.drop_zero, List.cons_append, List.nil_append, List.append_nil, List.map_cons, List.map_nil, List.set_cons_zero, List.set_cons_succ, Nat.reduceAdd, Nat.reduceSub, Nat.reduceMul, splice, AS.setBox, AS.push, AS.pushes, AS.pushOwn, AS.setOwn, AV.cells]; done) | (simp only [List.length_cons, List.length_nil, List.take_succ_cons, List.take_zero, List.drop_succ_cons, List.drop_zero, List.cons_append, List.nil_append, List.append_nil, List.map_cons, List.map_nil, List.set_cons_zero, List.set_cons_succ, Nat.reduceAdd, Nat.reduceSub, Nat.reduceMul, splice, AS.setBox, AS.push, AS.pushes, AS.pushOwn, AS.setOwn, AV.cells]; rfl) | rfl) ?_) | (refine stW.mk' ?_))
    | (refine RunE.nil ?_)
    | (refine RunD.nil ?_)
    | (refine RunC.seq ?_)
    | (refine RunC.regE ?_)
    | (refine RunC.regD (by kernel_rfl) ?_)
    | (refine RunC.cond ?_)
    | (refine RunC.block ?_)
    | (refine RunC.ret ?_)
    | (refine RunC.exit ?_)
    | (refine RunC.skip ?_)
    | (refine RunC.label ?_)
    | (refine callG.id ?_; first | (refine callG.by (c92 _ _ _) ?_) | fail)
    | (refine ACallH.id ?_; first | (refine ACallH.by (c92 _ _ _) ?_) | fail)
    | (refine ifH.id ?_; first | (refine ifH_isT (by assumption) ?_) | (refine ifH_isF (by assumption) ?_) | (refine ifH_pos (by assumption) ?_) | (refine ifH_neg (by assumption) ?_) | (refine ifH_isT rfl ?_) | (refine ifH_isF rfl ?_) | (refine ifH_not ?_) | (refine ifH_dec (fun h => ?_) (fun h => ?_)) | (refine ifH_split (fun h => ?_) (fun h => ?_)) | fail)
    | (refine someH.id ?_; first | (refine someH_of rfl ?_) | (refine someH_of (by assumption) ?_) | (refine someH_of azero_27 ?_) | (refine someH_of azero_45 ?_) | (refine someH_of azero_23 ?_) | (refine someH_of azero_60 ?_) | (refine someH_of azero_95 ?_) | (refine someH_of azero_63 ?_) | (refine someH_of azero_116 ?_) | (refine someH_of azero_114 ?_) | (refine someH_of azero_137 ?_) | (refine someH_of azero_57 ?_) | (refine someH_of aslc_61 ?_) | (refine someH_of azero_29 ?_) | (refine someH_of aslc_55 ?_) | (refine someH_of aslc_58 ?_) | (refine someH_of aslc_208 ?_) | (refine someH_of azero_160 ?_) | (refine someH_of azero_168 ?_) | (refine someH_of azero_173 ?_) | (refine someH_of azero_175 ?_) | (refine someH_of azero_3 ?_) | (refine someH_of azero_131 ?_) | (refine someH_of azero_25 ?_) | (refine someH_of azero_96 ?_) | (refine someH_of azero_55 ?_) | (refine someH_of azero_81 ?_) | (refine someH_of aslc_81 ?_) | (refine someH_of azero_4 ?_) | (refine someH_of azero_217 ?_) | (refine someH_of azero_129 ?_) | (refine someH_of azero_61 ?_) | (refine someH_of aslc_206 ?_) | (refine someH_of (aggEqw_27 _ _ _ _) ?_) | (refine someH_of (aggEqw_45 _ _ _ _ _ _ _ _) ?_) | (refine someH_of (aggEqw_116 _ _ _ _) ?_) | (refine someH_of (aggEqw_23 _ _ _ _) ?_) | fail)
    | (refine And.intro rfl ?_)
    | (refine And.intro (by assumption) ?_)
    | (refine And.intro (by decide) ?_)
    | fail
  all_goals (exact FinW.of (bool _) rfl rfl)
theorem c91 (n : Int) : DCall Try.prog 91 [int n] (bool (wi n 0 100)) := by
  refine DCall.fnF hm Try.func91 rfl Try.ntmps91 Try.results91 (by kernel_rfl) (by kernel_rfl) (by kernel_rfl) rfl rfl (Nat.le_of_ble_eq_true rfl) ?_
  repeat' (conv => whnf); first
    | (refine RunE.cons ?_)
    | (refine RunD.cons ?_)
    | (refine valW.id ?_; first | (refine valW.int ?_) | (refine valW.bool ?_) | (refine valW.unit ?_) | ((first | refine valW.ptr ?_ ?_ ?_ | refine valW.el ?_ ?_ ?_); focus ((try simp only [List.length_cons, List.length_nil, List.take_succ_cons, List.take_zero, List.drop_succ_cons, List.drop_zero, List.cons_append, List.nil_append, List.append_nil, List.map_cons, List.map_nil, List.set_cons_zero, List.set_cons_succ, Nat.reduceAdd, Nat.reduceSub, Nat.reduceMul, splice, AS.setBox, AS.push, AS.pushes, AS.pushOwn, AS.setOwn, AV.cells]); first | done | rfl); focus (first | exact (rfl : _ = 0) | exact (rfl : _ = 1) | exact (rfl : _ = 2) | exact (rfl : _ = 3) | exact (rfl : _ = 4) | exact (rfl : _ = 5) | exact (rfl : _ = 6) | exact (rfl : _ = 7) | exact (rfl : _ = 8) | exact (rfl : _ = 9) | exact (rfl : _ = 10) | exact (rfl : _ = 11) | rfl)) | (refine valW.agg (cs' := [_, _]) rfl ?_) | (refine valW.agg (cs' := [_, _, _, _, _]) rfl ?_) | (refine valW.agg (cs' := [_, _, _, _]) rfl ?_) | (refine valW.agg (cs' := [_]) rfl ?_) | (refine valW.agg (cs' := [_, _, _]) rfl ?_) | (refine valW.agg (cs' := [_, _, _, _, _, _]) rfl ?_) | (refine valW.agg (cs' := [_, _, _, _, _, _, _]) rfl ?_) | (refine valW.agg (cs' := [_, _, _, _, _, _, _, _]) rfl ?_) | (refine valW.agg (cs' := [_, _, _, _, _, _, _, _, _]) rfl ?_) | (refine valW.agg (cs' := [_, _, _, _, _, _, _, _, _, _]) rfl ?_) | (refine valW.agg (cs' := [_, _, _, _, _, _, _, _, _, _, _]) rfl ?_) | (refine valW.agg (cs' := [_, _, _, _, _, _, _, _, _, _, _, _]) rfl ?_) | ((first | refine valW.agg ?_ ?_ | refine valW.sl ?_ ?_ | refine valW.tup ?_ ?_); focus ((try simp only [List.length_cons, List.length_nil, List.take_succ_cons, List.take_zero, List.drop_succ_cons, List.drop_zero, List.cons_append, List.nil_append, List.append_nil, List.map_cons, List.map_nil, List.set_cons_zero, List.set_cons_succ, Nat.reduceAdd, Nat.reduceSub, Nat.reduceMul, splice, AS.setBox, AS.push, AS.pushes, AS.pushOwn, AS.setOwn, AV.cells]); first | done | rfl)) | (refine valW.eq rfl ?_) | fail)
    | (refine stW.id ?_; first | (refine stW.eq (by first | (simp only [List.length_cons, List.length_nil, List.take_succ_cons, List.take_zero, List.drop_succ_cons, List.drop_zero, List.cons_append, List.nil_append, List.append_nil, List.map_cons, List.map_nil, List.set_cons_zero, List.set_cons_succ, Nat.reduceAdd, Nat.reduceSub, Nat.reduceMul, splice, AS.setBox, AS.push, AS.pushes, AS.pushOwn, AS.setOwn, AV.cells]; done) | (simp only [List.length_cons, List.length_nil, List.take_succ_cons, List.take_zero, List.drop_succ_cons, List.drop_zero, List.cons_append, List.nil_append, List.append_nil, List.map_cons, List.map_nil, List.set_cons_zero, List.set_cons_succ, Nat.reduceAdd, Nat.reduceSub, Nat.reduceMul, splice, AS.setBox, AS.push, AS.pushes, AS.pushOwn, AS.setOwn, AV.cells]; rfl) | rfl) ?_) | (refine stW.mk' ?_))
    | (refine RunE.nil ?_)
    | (refine RunD.nil ?_)
    | (refine RunC.seq ?_)
    | (refine RunC.regE ?_)
    | (refine RunC.regD (by kernel_rfl) ?_)
    | (refine RunC.cond ?_)
    | (refine RunC.block ?_)
    | (refine RunC.ret ?_)
    | (refine RunC.exit ?_)
    | (refine RunC.skip ?_)
    | (refine RunC.label ?_)
    | (refine callG.id ?_; first | (refine callG.by (c92 _ _ _) ?_) | fail)
    | (refine ACallH.id ?_; first | (refine ACallH.by (c92 _ _ _) ?_) | fail)
    | (refine ifH.id ?_; first | (refine ifH_isT (by assumption) ?_) | (refine ifH_isF (by assumption) ?_) | (refine ifH_pos (by assumption) ?_) | (refine ifH_neg (by assumption) ?_) | (refine ifH_isT rfl ?_) | (refine ifH_isF rfl ?_) | (refine ifH_not ?_) | (refine ifH_dec (fun h => ?_) (fun h => ?_)) | (refine ifH_split (fun h => ?_) (fun h => ?_)) | fail)
    | (refine someH.id ?_; first | (refine someH_of rfl ?_) | (refine someH_of (by assumption) ?_) | (refine someH_of azero_27 ?_) | (refine someH_of azero_45 ?_) | (refine someH_of azero_23 ?_) | (refine someH_of azero_60 ?_) | (refine someH_of azero_95 ?_) | (refine someH_of azero_63 ?_) | (refine someH_of azero_116 ?_) | (refine someH_of azero_114 ?_) | (refine someH_of azero_137 ?_) | (refine someH_of azero_57 ?_) | (refine someH_of aslc_61 ?_) | (refine someH_of azero_29 ?_) | (refine someH_of aslc_55 ?_) | (refine someH_of aslc_58 ?_) | (refine someH_of aslc_208 ?_) | (refine someH_of azero_160 ?_) | (refine someH_of azero_168 ?_) | (refine someH_of azero_173 ?_) | (refine someH_of azero_175 ?_) | (refine someH_of azero_3 ?_) | (refine someH_of azero_131 ?_) | (refine someH_of azero_25 ?_) | (refine someH_of azero_96 ?_) | (refine someH_of azero_55 ?_) | (refine someH_of azero_81 ?_) | (refine someH_of aslc_81 ?_) | (refine someH_of azero_4 ?_) | (refine someH_of azero_217 ?_) | (refine someH_of azero_129 ?_) | (refine someH_of azero_61 ?_) | (refine someH_of aslc_206 ?_) | (refine someH_of (aggEqw_27 _ _ _ _) ?_) | (refine someH_of (aggEqw_45 _ _ _ _ _ _ _ _) ?_) | (refine someH_of (aggEqw_116 _ _ _ _) ?_) | (refine someH_of (aggEqw_23 _ _ _ _) ?_) | fail)
    | (refine And.intro rfl ?_)
    | (refine And.intro (by assumption) ?_)
    | (refine And.intro (by decide) ?_)
    | fail
  all_goals (exact FinW.of (bool _) rfl rfl)
theorem c88 (n : Int) : DCall Try.prog 88 [int n] (int (loadE n)) := by
  refine DCall.fnF hm Try.func88 rfl Try.ntmps88 Try.results88 (by kernel_rfl) (by kernel_rfl) (by kernel_rfl) rfl rfl (Nat.le_of_ble_eq_true rfl) ?_
  repeat' (conv => whnf); first
    | (refine RunE.cons ?_)
    | (refine RunD.cons ?_)
    | (refine valW.id ?_; first | (refine valW.int ?_) | (refine valW.bool ?_) | (refine valW.unit ?_) | ((first | refine valW.ptr ?_ ?_ ?_ | refine valW.el ?_ ?_ ?_); focus ((try simp only [List.length_cons, List.length_nil, List.take_succ_cons, List.take_zero, List.drop_succ_cons, List.drop_zero, List.cons_append, List.nil_append, List.append_nil, List.map_cons, List.map_nil, List.set_cons_zero, List.set_cons_succ, Nat.reduceAdd, Nat.reduceSub, Nat.reduceMul, splice, AS.setBox, AS.push, AS.pushes, AS.pushOwn, AS.setOwn, AV.cells]); first | done | rfl); focus (first | exact (rfl : _ = 0) | exact (rfl : _ = 1) | exact (rfl : _ = 2) | exact (rfl : _ = 3) | exact (rfl : _ = 4) | exact (rfl : _ = 5) | exact (rfl : _ = 6) | exact (rfl : _ = 7) | exact (rfl : _ = 8) | exact (rfl : _ = 9) | exact (rfl : _ = 10) | exact (rfl : _ = 11) | rfl)) | (refine valW.agg (cs' := [_, _]) rfl ?_) | (refine valW.agg (cs' := [_, _, _, _, _]) rfl ?_) | (refine valW.agg (cs' := [_, _, _, _]) rfl ?_) | (refine valW.agg (cs' := [_]) rfl ?_) | (refine valW.agg (cs' := [_, _, _]) rfl ?_) | (refine valW.agg (cs' := [_, _, _, _, _, _]) rfl ?_) | (refine valW.agg (cs' := [_, _, _, _, _, _, _]) rfl ?_) | (refine valW.agg (cs' := [_, _, _, _, _, _, _, _]) rfl ?_) | (refine valW.agg (cs' := [_, _, _, _, _, _, _, _, _]) rfl ?_) | (refine valW.agg (cs' := [_, _, _, _, _, _, _, _, _, _]) rfl ?_) | (refine valW.agg (cs' := [_, _, _, _, _, _, _, _, _, _, _]) rfl ?_) | (refine valW.agg (cs' := [_, _, _, _, _, _, _, _, _, _, _, _]) rfl ?_) | ((first | refine valW.agg ?_ ?_ | refine valW.sl ?_ ?_ | refine valW.tup ?_ ?_); focus ((try simp only [List.length_cons, List.length_nil, List.take_succ_cons, List.take_zero, List.drop_succ_cons, List.drop_zero, List.cons_append, List.nil_append, List.append_nil, List.map_cons, List.map_nil, List.set_cons_zero, List.set_cons_succ, Nat.reduceAdd, Nat.reduceSub, Nat.reduceMul, splice, AS.setBox, AS.push, AS.pushes, AS.pushOwn, AS.setOwn, AV.cells]); first | done | rfl)) | (refine valW.eq rfl ?_) | fail)
    | (refine stW.id ?_; first | (refine stW.eq (by first | (simp only [List.length_cons, List.length_nil, List.take_succ_cons, List.take_zero, List.drop_succ_cons, List.drop_zero, List.cons_append, List.nil_append, List.append_nil, List.map_cons, List.map_nil, List.set_cons_zero, List.set_cons_succ, Nat.reduceAdd, Nat.reduceSub, Nat.reduceMul, splice, AS.setBox, AS.push, AS.pushes, AS.pushOwn, AS.setOwn, AV.cells]; done) | (simp only [List.length_cons, List.length_nil, List.take_succ_cons, List.take_zero, List.drop_succ_cons, List.drop_zero, List.cons_append, List.nil_append, List.append_nil, List.map_cons, List.map_nil, List.set_cons_zero, List.set_cons_succ, Nat.reduceAdd, Nat.reduceSub, Nat.reduceMul, splice, AS.setBox, AS.push, AS.pushes, AS.pushOwn, AS.setOwn, AV.cells]; rfl) | rfl) ?_) | (refine stW.mk' ?_))
    | (refine RunE.nil ?_)
    | (refine RunD.nil ?_)
    | (refine RunC.seq ?_)
    | (refine RunC.regE ?_)
    | (refine RunC.regD (by kernel_rfl) ?_)
    | (refine RunC.cond ?_)
    | (refine RunC.block ?_)
    | (refine RunC.ret ?_)
    | (refine RunC.exit ?_)
    | (refine RunC.skip ?_)
    | (refine RunC.label ?_)
    | (refine callG.id ?_; first | (refine callG.by (c139 _) ?_) | (refine callG.by (c93 _ _) ?_) | fail)
    | (refine ACallH.id ?_; first | (refine ACallH.by (c139 _) ?_) | (refine ACallH.by (c93 _ _) ?_) | fail)
    | (refine ifH.id ?_; first | (refine ifH_isT (by assumption) ?_) | (refine ifH_isF (by assumption) ?_) | (refine ifH_pos (by assumption) ?_) | (refine ifH_neg (by assumption) ?_) | (refine ifH_isT rfl ?_) | (refine ifH_isF rfl ?_) | (refine ifH_not ?_) | (refine ifH_dec (fun h => ?_) (fun h => ?_)) | (refine ifH_split (fun h => ?_) (fun h => ?_)) | fail)
    | (refine someH.id ?_; first | (refine someH_of rfl ?_) | (refine someH_of (by assumption) ?_) | (refine someH_of azero_27 ?_) | (refine someH_of azero_45 ?_) | (refine someH_of azero_23 ?_) | (refine someH_of azero_60 ?_) | (refine someH_of azero_95 ?_) | (refine someH_of azero_63 ?_) | (refine someH_of azero_116 ?_) | (refine someH_of azero_114 ?_) | (refine someH_of azero_137 ?_) | (refine someH_of azero_57 ?_) | (refine someH_of aslc_61 ?_) | (refine someH_of azero_29 ?_) | (refine someH_of aslc_55 ?_) | (refine someH_of aslc_58 ?_) | (refine someH_of aslc_208 ?_) | (refine someH_of azero_160 ?_) | (refine someH_of azero_168 ?_) | (refine someH_of azero_173 ?_) | (refine someH_of azero_175 ?_) | (refine someH_of azero_3 ?_) | (refine someH_of azero_131 ?_) | (refine someH_of azero_25 ?_) | (refine someH_of azero_96 ?_) | (refine someH_of azero_55 ?_) | (refine someH_of azero_81 ?_) | (refine someH_of aslc_81 ?_) | (refine someH_of azero_4 ?_) | (refine someH_of azero_217 ?_) | (refine someH_of azero_129 ?_) | (refine someH_of azero_61 ?_) | (refine someH_of aslc_206 ?_) | (refine someH_of (aggEqw_27 _ _ _ _) ?_) | (refine someH_of (aggEqw_45 _ _ _ _ _ _ _ _) ?_) | (refine someH_of (aggEqw_116 _ _ _ _) ?_) | (refine someH_of (aggEqw_23 _ _ _ _) ?_) | fail)
    | (refine And.intro rfl ?_)
    | (refine And.intro (by assumption) ?_)
    | (refine And.intro (by decide) ?_)
    | fail
  all_goals (exact FinW.of (int _) rfl rfl)
theorem c89 (ine area flo fhi thr k : Int) : DCall Try.prog 89 [.agg [int ine, int area, int flo, int fhi, int thr], int k] (int (fricE flo fhi k)) := by
  refine DCall.fnF hm Try.func89 rfl Try.ntmps89 Try.results89 (by kernel_rfl) (by kernel_rfl) (by kernel_rfl) rfl rfl (Nat.le_of_ble_eq_true rfl) ?_
  repeat' (conv => whnf); first
    | (refine RunE.cons ?_)
    | (refine RunD.cons ?_)
    | (refine valW.id ?_; first | (refine valW.int ?_) | (refine valW.bool ?_) | (refine valW.unit ?_) | ((first | refine valW.ptr ?_ ?_ ?_ | refine valW.el ?_ ?_ ?_); focus ((try simp only [List.length_cons, List.length_nil, List.take_succ_cons, List.take_zero, List.drop_succ_cons, List.drop_zero, List.cons_append, List.nil_append, List.append_nil, List.map_cons, List.map_nil, List.set_cons_zero, List.set_cons_succ, Nat.reduceAdd, Nat.reduceSub, Nat.reduceMul, splice, AS.setBox, AS.push, AS.pushes, AS.pushOwn, AS.setOwn, AV.cells]); first | done | rfl); focus (first | exact (rfl : _ = 0) | exact (rfl : _ = 1) | exact (rfl : _ = 2) | exact (rfl : _ = 3) | exact (rfl : _ = 4) | exact (rfl : _ = 5) | exact (rfl : _ = 6) | exact (rfl : _ = 7) | exact (rfl : _ = 8) | exact (rfl : _ = 9) | exact (rfl : _ = 10) | exact (rfl : _ = 11) | rfl)) | (refine valW.agg (cs' := [_, _]) rfl ?_) | (refine valW.agg (cs' := [_, _, _, _, _]) rfl ?_) | (refine valW.agg (cs' := [_, _, _, _]) rfl ?_) | (refine valW.agg (cs' := [_]) rfl ?_) | (refine valW.agg (cs' := [_, _, _]) rfl ?_) | (refine valW.agg (cs' := [_, _, _, _, _, _]) rfl ?_) | (refine valW.agg (cs' := [_, _, _, _, _, _, _]) rfl ?_) | (refine valW.agg (cs' := [_, _, _, _, _, _, _, _]) rfl ?_) | (refine valW.agg (cs' := [_, _, _, _, _, _, _, _, _]) rfl ?_) | (refine valW.agg (cs' := [_, _, _, _, _, _, _, _, _, _]) rfl ?_) | (refine valW.agg (cs' := [_, _, _, _, _, _, _, _, _, _, _]) rfl ?_) | (refine valW.agg (cs' := [_, _, _, _, _, _, _, _, _, _, _, _]) rfl ?_) | ((first | refine valW.agg ?_ ?_ | refine valW.sl ?_ ?_ | refine valW.tup ?_ ?_); focus ((try simp only [List.length_cons, List.length_nil, List.take_succ_cons, List.take_zero, List.drop_succ_cons, List.drop_zero, List.cons_append, List.nil_append, List.append_nil, List.map_cons, List.map_nil, List.set_cons_zero, List.set_cons_succ, Nat.reduceAdd, Nat.reduceSub, Nat.reduceMul, splice, AS.setBox, AS.push, AS.pushes, AS.pushOwn, AS.setOwn, AV.cells]); first | done | rfl)) | (refine valW.eq rfl ?_) | fail)
    | (refine stW.id ?_; first | (refine stW.eq (by first | (simp only [List.length_cons, List.length_nil, List.take_succ_cons, List.take_zero, List.drop_succ_cons, List.drop_zero, List.cons_append, List.nil_append, List.append_nil, List.map_cons, List.map_nil, List.set_cons_zero, List.set_cons_succ, Nat.reduceAdd, Nat.reduceSub, Nat.reduceMul, splice, AS.setBox, AS.push, AS.pushes, AS.pushOwn, AS.setOwn, AV.cells]; done) | (simp only [List.length_cons, List.length_nil, List.take_succ_cons, List.take_zero, List.drop_succ_cons, List.drop_zero, List.cons_append, List.nil_append, List.append_nil, List.map_cons, List.map_nil, List.set_cons_zero, List.set_cons_succ, Nat.reduceAdd, Nat.reduceSub, Nat.reduceMul, splice, AS.setBox, AS.push, AS.pushes, AS.pushOwn, AS.setOwn, AV.cells]; rfl) | rfl) ?_) | (refine stW.mk' ?_))
    | (refine RunE.nil ?_)
    | (refine RunD.nil ?_)
    | (refine RunC.seq ?_)
    | (refine RunC.regE ?_)
    | (refine RunC.regD (by kernel_rfl) ?_)
    | (refine RunC.cond ?_)
    | (refine RunC.block ?_)
    | (refine RunC.ret ?_)
    | (refine RunC.exit ?_)
    | (refine RunC.skip ?_)
    | (refine RunC.label ?_)
    | (refine callG.id ?_; first | (refine callG.by (c92 _ _ _) ?_) | (refine callG.by (c93 _ _) ?_) | fail)
    | (refine ACallH.id ?_; first | (refine ACallH.by (c92 _ _ _) ?_) | (refine ACallH.by (c93 _ _) ?_) | fail)
    | (refine ifH.id ?_; first | (refine ifH_isT (by assumption) ?_) | (refine ifH_isF (by assumption) ?_) | (refine ifH_pos (by assumption) ?_) | (refine ifH_neg (by assumption) ?_) | (refine ifH_isT rfl ?_) | (refine ifH_isF rfl ?_) | (refine ifH_not ?_) | (refine ifH_dec (fun h => ?_) (fun h => ?_)) | (refine ifH_split (fun h => ?_) (fun h => ?_)) | fail)
    | (refine someH.id ?_; first | (refine someH_of rfl ?_) | (refine someH_of (by assumption) ?_) | (refine someH_of azero_27 ?_) | (refine someH_of azero_45 ?_) | (refine someH_of azero_23 ?_) | (refine someH_of azero_60 ?_) | (refine someH_of azero_95 ?_) | (refine someH_of azero_63 ?_) | (refine someH_of azero_116 ?_) | (refine someH_of azero_114 ?_) | (refine someH_of azero_137 ?_) | (refine someH_of azero_57 ?_) | (refine someH_of aslc_61 ?_) | (refine someH_of azero_29 ?_) | (refine someH_of aslc_55 ?_) | (refine someH_of aslc_58 ?_) | (refine someH_of aslc_208 ?_) | (refine someH_of azero_160 ?_) | (refine someH_of azero_168 ?_) | (refine someH_of azero_173 ?_) | (refine someH_of azero_175 ?_) | (refine someH_of azero_3 ?_) | (refine someH_of azero_131 ?_) | (refine someH_of azero_25 ?_) | (refine someH_of azero_96 ?_) | (refine someH_of azero_55 ?_) | (refine someH_of azero_81 ?_) | (refine someH_of aslc_81 ?_) | (refine someH_of azero_4 ?_) | (refine someH_of azero_217 ?_) | (refine someH_of azero_129 ?_) | (refine someH_of azero_61 ?_) | (refine someH_of aslc_206 ?_) | (refine someH_of (aggEqw_27 _ _ _ _) ?_) | (refine someH_of (aggEqw_45 _ _ _ _ _ _ _ _) ?_) | (refine someH_of (aggEqw_116 _ _ _ _) ?_) | (refine someH_of (aggEqw_23 _ _ _ _) ?_) | fail)
    | (refine And.intro rfl ?_)
    | (refine And.intro (by assumption) ?_)
    | (refine And.intro (by decide) ?_)
    | fail
  all_goals (exact FinW.of (int _) rfl rfl)
theorem c94 (lvl flow : Int) : DCall Try.prog 94 [.agg [int lvl, int flow]] (int (stateE lvl flow)) := by
  refine DCall.fnF hm Try.func94 rfl Try.ntmps94 Try.results94 (by kernel_rfl) (by kernel_rfl) (by kernel_rfl) rfl rfl (Nat.le_of_ble_eq_true rfl) ?_
  repeat' (conv => whnf); first
    | (refine RunE.cons ?_)
    | (refine RunD.cons ?_)
    | (refine valW.id ?_; first | (refine valW.int ?_) | (refine valW.bool ?_) | (refine valW.unit ?_) | ((first | refine valW.ptr ?_ ?_ ?_ | refine valW.el ?_ ?_ ?_); focus ((try simp only [List.length_cons, List.length_nil, List.take_succ_cons, List.take_zero, List.drop_succ_cons, List.drop_zero, List.cons_append, List.nil_append, List.append_nil, List.map_cons, List.map_nil, List.set_cons_zero, List.set_cons_succ, Nat.reduceAdd, Nat.reduceSub, Nat.reduceMul, splice, AS.setBox, AS.push, AS.pushes, AS.pushOwn, AS.setOwn, AV.cells]); first | done | rfl); focus (first | exact (rfl : _ = 0) | exact (rfl : _ = 1) | exact (rfl : _ = 2) | exact (rfl : _ = 3) | exact (rfl : _ = 4) | exact (rfl : _ = 5) | exact (rfl : _ = 6) | exact (rfl : _ = 7) | exact (rfl : _ = 8) | exact (rfl : _ = 9) | exact (rfl : _ = 10) | exact (rfl : _ = 11) | rfl)) | (refine valW.agg (cs' := [_, _]) rfl ?_) | (refine valW.agg (cs' := [_, _, _, _, _]) rfl ?_) | (refine valW.agg (cs' := [_, _, _, _]) rfl ?_) | (refine valW.agg (cs' := [_]) rfl ?_) | (refine valW.agg (cs' := [_, _, _]) rfl ?_) | (refine valW.agg (cs' := [_, _, _, _, _, _]) rfl ?_) | (refine valW.agg (cs' := [_, _, _, _, _, _, _]) rfl ?_) | (refine valW.agg (cs' := [_, _, _, _, _, _, _, _]) rfl ?_) | (refine valW.agg (cs' := [_, _, _, _, _, _, _, _, _]) rfl ?_) | (refine valW.agg (cs' := [_, _, _, _, _, _, _, _, _, _]) rfl ?_) | (refine valW.agg (cs' := [_, _, _, _, _, _, _, _, _, _, _]) rfl ?_) | (refine valW.agg (cs' := [_, _, _, _, _, _, _, _, _, _, _, _]) rfl ?_) | ((first | refine valW.agg ?_ ?_ | refine valW.sl ?_ ?_ | refine valW.tup ?_ ?_); focus ((try simp only [List.length_cons, List.length_nil, List.take_succ_cons, List.take_zero, List.drop_succ_cons, List.drop_zero, List.cons_append, List.nil_append, List.append_nil, List.map_cons, List.map_nil, List.set_cons_zero, List.set_cons_succ, Nat.reduceAdd, Nat.reduceSub, Nat.reduceMul, splice, AS.setBox, AS.push, AS.pushes, AS.pushOwn, AS.setOwn, AV.cells]); first | done | rfl)) | (refine valW.eq rfl ?_) | fail)
    | (refine stW.id ?_; first | (refine stW.eq (by first | (simp only [List.length_cons, List.length_nil, List.take_succ_cons, List.take_zero, List.drop_succ_cons, List.drop_zero, List.cons_append, List.nil_append, List.append_nil, List.map_cons, List.map_nil, List.set_cons_zero, List.set_cons_succ, Nat.reduceAdd, Nat.reduceSub, Nat.reduceMul, splice, AS.setBox, AS.push, AS.pushes, AS.pushOwn, AS.setOwn, AV.cells]; done) | (simp only [List.length_cons, List.length_nil, List.take_succ_cons, List.take_zero, List.drop_succ_cons, List.drop_zero, List.cons_append, List.nil_append, List.append_nil, List.map_cons, List.map_nil, List.set_cons_zero, List.set_cons_succ, Nat.reduceAdd, Nat.reduceSub, Nat.reduceMul, splice, AS.setBox, AS.push, AS.pushes, AS.pushOwn, AS.setOwn, AV.cells]; rfl) | rfl) ?_) | (refine stW.mk' ?_))
    | (refine RunE.nil ?_)
    | (refine RunD.nil ?_)
    | (refine RunC.seq ?_)
    | (refine RunC.regE ?_)
    | (refine RunC.regD (by kernel_rfl) ?_)
    | (refine RunC.cond ?_)
    | (refine RunC.block ?_)
    | (refine RunC.ret ?_)
    | (refine RunC.exit ?_)
    | (refine RunC.skip ?_)
    | (refine RunC.label ?_)
    | (refine callG.id ?_; first | (refine callG.by (c142 _) ?_) | (refine callG.by (c143 _) ?_) | (refine callG.by (c93 _ _) ?_) | fail)
    | (refine ACallH.id ?_; first | (refine ACallH.by (c142 _) ?_) | (refine ACallH.by (c143 _) ?_) | (refine ACallH.by (c93 _ _) ?_) | fail)
    | (refine ifH.id ?_; first | (refine ifH_isT (by assumption) ?_) | (refine ifH_isF (by assumption) ?_) | (refine ifH_pos (by assumption) ?_) | (refine ifH_neg (by assumption) ?_) | (refine ifH_isT rfl ?_) | (refine ifH_isF rfl ?_) | (refine ifH_not ?_) | (refine ifH_dec (fun h => ?_) (fun h => ?_)) | (refine ifH_split (fun h => ?_) (fun h => ?_)) | fail)
    | (refine someH.id ?_; first | (refine someH_of rfl ?_) | (refine someH_of (by assumption) ?_) | (refine someH_of azero_27 ?_) | (refine someH_of azero_45 ?_) | (refine someH_of azero_23 ?_) | (refine someH_of azero_60 ?_) | (refine someH_of azero_95 ?_) | (refine someH_of azero_63 ?_) | (refine someH_of azero_116 ?_) | (refine someH_of azero_114 ?_) | (refine someH_of azero_137 ?_) | (refine someH_of azero_57 ?_) | (refine someH_of aslc_61 ?_) | (refine someH_of azero_29 ?_) | (refine someH_of aslc_55 ?_) | (refine someH_of aslc_58 ?_) | (refine someH_of aslc_208 ?_) | (refine someH_of azero_160 ?_) | (refine someH_of azero_168 ?_) | (refine someH_of azero_173 ?_) | (refine someH_of azero_175 ?_) | (refine someH_of azero_3 ?_) | (refine someH_of azero_131 ?_) | (refine someH_of azero_25 ?_) | (refine someH_of azero_96 ?_) | (refine someH_of azero_55 ?_) | (refine someH_of azero_81 ?_) | (refine someH_of aslc_81 ?_) | (refine someH_of azero_4 ?_) | (refine someH_of azero_217 ?_) | (refine someH_of azero_129 ?_) | (refine someH_of azero_61 ?_) | (refine someH_of aslc_206 ?_) | (refine someH_of (aggEqw_27 _ _ _ _) ?_) | (refine someH_of (aggEqw_45 _ _ _ _ _ _ _ _) ?_) | (refine someH_of (aggEqw_116 _ _ _ _) ?_) | (refine someH_of (aggEqw_23 _ _ _ _) ?_) | fail)
    | (refine And.intro rfl ?_)
    | (refine And.intro (by assumption) ?_)
    | (refine And.intro (by decide) ?_)
    | fail
  all_goals (exact FinW.of (int _) rfl (by simp [stateE, *]))
theorem c90 (ine area flo fhi thr : Int) (lvl flow load fr : Int) (hi : ine ≠ 0) (ha : area ≠ 0) : DCall Try.prog 90 [.agg [int ine, int area, int flo, int fhi, int thr], .agg [int lvl, int flow], int load, int fr] (.agg [int (stepV area lvl (stepF ine thr lvl flow load fr) load), int (stepF ine thr lvl flow load fr)]) := by
  refine DCall.fnF hm Try.func90 rfl Try.ntmps90 Try.results90 (by kernel_rfl) (by kernel_rfl) (by kernel_rfl) rfl rfl (Nat.le_of_ble_eq_true rfl) ?_
  repeat' (conv => whnf); first
    | (refine RunE.cons ?_)
    | (refine RunD.cons ?_)
    | (refine valW.id ?_; first | (refine valW.int ?_) | (refine valW.bool ?_) | (refine valW.unit ?_) | ((first | refine valW.ptr ?_ ?_ ?_ | refine valW.el ?_ ?_ ?_); focus ((try simp only [List.length_cons, List.length_nil, List.take_succ_cons, List.take_zero, List.drop_succ_cons, List.drop_zero, List.cons_append, List.nil_append, List.append_nil, List.map_cons, List.map_nil, List.set_cons_zero, List.set_cons_succ, Nat.reduceAdd, Nat.reduceSub, Nat.reduceMul, splice, AS.setBox, AS.push, AS.pushes, AS.pushOwn, AS.setOwn, AV.cells]); first | done | rfl); focus (first | exact (rfl : _ = 0) | exact (rfl : _ = 1) | exact (rfl : _ = 2) | exact (rfl : _ = 3) | exact (rfl : _ = 4) | exact (rfl : _ = 5) | exact (rfl : _ = 6) | exact (rfl : _ = 7) | exact (rfl : _ = 8) | exact (rfl : _ = 9) | exact (rfl : _ = 10) | exact (rfl : _ = 11) | rfl)) | (refine valW.agg (cs' := [_, _]) rfl ?_) | (refine valW.agg (cs' := [_, _, _, _, _]) rfl ?_) | (refine valW.agg (cs' := [_, _, _, _]) rfl ?_) | (refine valW.agg (cs' := [_]) rfl ?_) | (refine valW.agg (cs' := [_, _, _]) rfl ?_) | (refine valW.agg (cs' := [_, _, _, _, _, _]) rfl ?_) | (refine valW.agg (cs' := [_, _, _, _, _, _, _]) rfl ?_) | (refine valW.agg (cs' := [_, _, _, _, _, _, _, _]) rfl ?_) | (refine valW.agg (cs' := [_, _, _, _, _, _, _, _, _]) rfl ?_) | (refine valW.agg (cs' := [_, _, _, _, _, _, _, _, _, _]) rfl ?_) | (refine valW.agg (cs' := [_, _, _, _, _, _, _, _, _, _, _]) rfl ?_) | (refine valW.agg (cs' := [_, _, _, _, _, _, _, _, _, _, _, _]) rfl ?_) | ((first | refine valW.agg ?_ ?_ | refine valW.sl ?_ ?_ | refine valW.tup ?_ ?_); focus ((try simp only [List.length_cons, List.length_nil, List.take_succ_cons, List.take_zero, List.drop_succ_cons, List.drop_zero, List.cons_append, List.nil_append, List.append_nil, List.map_cons, List.map_nil, List.set_cons_zero, List.set_cons_succ, Nat.reduceAdd, Nat.reduceSub, Nat.reduceMul, splice, AS.setBox, AS.push, AS.pushes, AS.pushOwn, AS.setOwn, AV.cells]); first | done | rfl)) | (refine valW.eq rfl ?_) | fail)
    | (refine stW.id ?_; first | (refine stW.eq (by first | (simp only [List.length_cons, List.length_nil, List.take_succ_cons, List.take_zero, List.drop_succ_cons, List.drop_zero, List.cons_append, List.nil_append, List.append_nil, List.map_cons, List.map_nil, List.set_cons_zero, List.set_cons_succ, Nat.reduceAdd, Nat.reduceSub, Nat.reduceMul, splice, AS.setBox, AS.push, AS.pushes, AS.pushOwn, AS.setOwn, AV.cells]; done) | (simp only [List.length_cons, List.length_nil, List.take_succ_cons, List.take_zero, List.drop_succ_cons, List.drop_zero, List.cons_append, List.nil_append, List.append_nil, List.map_cons, List.map_nil, List.set_cons_zero, List.set_cons_succ, Nat.reduceAdd, Nat.reduceSub, Nat.reduceMul, splice, AS.setBox, AS.push, AS.pushes, AS.pushOwn, AS.setOwn, AV.cells]; rfl) | rfl) ?_) | (refine stW.mk' ?_))
    | (refine RunE.nil ?_)
    | (refine RunD.nil ?_)
    | (refine RunC.seq ?_)
    | (refine RunC.regE ?_)
    | (refine RunC.regD (by kernel_rfl) ?_)
    | (refine RunC.cond ?_)
    | (refine RunC.block ?_)
    | (refine RunC.ret ?_)
    | (refine RunC.exit ?_)
    | (refine RunC.skip ?_)
    | (refine RunC.label ?_)
    | (refine callG.id ?_; first | (refine callG.by (c140 _) ?_) | (refine callG.by (c141 _ _ hi) ?_) | (refine callG.by (c141 _ _ ha) ?_) | fail)
    | (refine ACallH.id ?_; first | (refine ACallH.by (c140 _) ?_) | (refine ACallH.by (c141 _ _ hi) ?_) | (refine ACallH.by (c141 _ _ ha) ?_) | fail)
    | (refine ifH.id ?_; first | (refine ifH_isT (by assumption) ?_) | (refine ifH_isF (by assumption) ?_) | (refine ifH_pos (by assumption) ?_) | (refine ifH_neg (by assumption) ?_) | (refine ifH_isT rfl ?_) | (refine ifH_isF rfl ?_) | (refine ifH_not ?_) | (refine ifH_dec (fun h => ?_) (fun h => ?_)) | (refine ifH_split (fun h => ?_) (fun h => ?_)) | fail)
    | (refine someH.id ?_; first | (refine someH_of rfl ?_) | (refine someH_of (by assumption) ?_) | (refine someH_of azero_27 ?_) | (refine someH_of azero_45 ?_) | (refine someH_of azero_23 ?_) | (refine someH_of azero_60 ?_) | (refine someH_of azero_95 ?_) | (refine someH_of azero_63 ?_) | (refine someH_of azero_116 ?_) | (refine someH_of azero_114 ?_) | (refine someH_of azero_137 ?_) | (refine someH_of azero_57 ?_) | (refine someH_of aslc_61 ?_) | (refine someH_of azero_29 ?_) | (refine someH_of aslc_55 ?_) | (refine someH_of aslc_58 ?_) | (refine someH_of aslc_208 ?_) | (refine someH_of azero_160 ?_) | (refine someH_of azero_168 ?_) | (refine someH_of azero_173 ?_) | (refine someH_of azero_175 ?_) | (refine someH_of azero_3 ?_) | (refine someH_of azero_131 ?_) | (refine someH_of azero_25 ?_) | (refine someH_of azero_96 ?_) | (refine someH_of azero_55 ?_) | (refine someH_of azero_81 ?_) | (refine someH_of aslc_81 ?_) | (refine someH_of azero_4 ?_) | (refine someH_of azero_217 ?_) | (refine someH_of azero_129 ?_) | (refine someH_of azero_61 ?_) | (refine someH_of aslc_206 ?_) | (refine someH_of (aggEqw_27 _ _ _ _) ?_) | (refine someH_of (aggEqw_45 _ _ _ _ _ _ _ _) ?_) | (refine someH_of (aggEqw_116 _ _ _ _) ?_) | (refine someH_of (aggEqw_23 _ _ _ _) ?_) | fail)
    | (refine And.intro rfl ?_)
    | (refine And.intro (by assumption) ?_)
    | (refine And.intro (by decide) ?_)
    | fail
  all_goals (exact FinW.of (.agg [int _, int _]) rfl rfl)
end Go.Proofs.Ytfjeopaaplnoaaa
