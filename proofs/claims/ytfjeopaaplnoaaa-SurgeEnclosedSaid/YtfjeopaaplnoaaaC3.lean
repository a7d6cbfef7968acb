/-
  STEPPED: the state after a step, or the errors; the law SurgeSteps on values.
-/
import Derived.Test.YtfjeopaaplnoaaaC2
namespace Go.Proofs.Ytfjeopaaplnoaaa
open Go Go.RowKit Av
set_option maxRecDepth 100000
set_option maxHeartbeats 1000000
set_option linter.unusedSimpArgs false

theorem wi_true {n lo hi : Int} : wi n lo hi = true ↔ lo ≤ n ∧ n ≤ hi := by simp [wi]
theorem un_zero {b : Bool} {e : Int} (he : e ≠ 0) : un b e = 0 ↔ b = true := by cases b <;> simp [un, he]
theorem firstL_zero : ∀ {l : List Int}, firstL l = 0 ↔ ∀ e ∈ l, e = 0
  | [] => by simp [firstL]
  | e :: l => by
    unfold firstL
    split
    · rename_i h; rw [firstL_zero]; simp [h]
    · rename_i h; simp [h]
theorem rulesE_zero {ine area flo fhi thr : Int} (h : rulesE ine area flo fhi thr = 0) : (1 ≤ ine ∧ ine ≤ 1000) ∧ (1 ≤ area ∧ area ≤ 1000) ∧ (0 ≤ flo ∧ flo ≤ 100) ∧ (0 ≤ fhi ∧ fhi ≤ 100) ∧ (0 ≤ thr ∧ thr ≤ 100) ∧ flo ≤ fhi ∧ 2001 * fhi + 4001 * thr + 2000 ≤ 1000 * ine := by
  unfold rulesE at h
  split at h
  · rename_i hw
    simp only [Bool.and_eq_true, wi_true] at hw
    obtain ⟨h1, h2, h3, h4, h5⟩ := hw
    rw [firstL_zero] at h
    have ha := h _ (List.mem_cons_self ..)
    have hb := h _ (List.mem_cons_of_mem _ (List.mem_cons_self ..))
    rw [un_zero (by decide)] at ha hb
    simp only [decide_eq_true_eq] at ha hb
    rw [w64 (x := 2001 * fhi) (by omega) (by omega), w64 (x := 4001 * thr) (by omega) (by omega), w64 (x := 2001 * fhi + 4001 * thr) (by omega) (by omega), w64 (x := 2001 * fhi + 4001 * thr + 2000) (by omega) (by omega), w64 (x := 1000 * ine) (by omega) (by omega)] at hb
    exact ⟨h1, h2, h3, h4, h5, ha, hb⟩
  · cases h
def steppedE (ine area flo fhi thr lvl flow load fr : Int) : Int := firstL [firstL [rulesE ine area flo fhi thr, stateE lvl flow], loadE load, fricE flo fhi fr]
theorem steppedE_zero {ine area flo fhi thr lvl flow load fr : Int} (h : steppedE ine area flo fhi thr lvl flow load fr = 0) : rulesE ine area flo fhi thr = 0 ∧ stateE lvl flow = 0 ∧ loadE load = 0 ∧ fricE flo fhi fr = 0 := by
  have := (by simpa [steppedE, firstL_zero] using h : (rulesE ine area flo fhi thr = 0 ∧ stateE lvl flow = 0) ∧ loadE load = 0 ∧ fricE flo fhi fr = 0)
  exact ⟨this.1.1, this.1.2, this.2⟩
theorem beq_true' {a : Int} (h : (a == 0) = true) : a = 0 := by simpa using h
theorem ine_of {ine area flo fhi thr lvl flow load fr : Int} (h : (steppedE ine area flo fhi thr lvl flow load fr == 0) = true) : ine ≠ 0 := by
  have := (rulesE_zero (steppedE_zero (beq_true' h)).1).1; omega
theorem area_of {ine area flo fhi thr lvl flow load fr : Int} (h : (steppedE ine area flo fhi thr lvl flow load fr == 0) = true) : area ≠ 0 := by
  have := (rulesE_zero (steppedE_zero (beq_true' h)).1).2.1; omega
theorem c16 (ine area flo fhi thr : Int) (lvl flow load fr : Int) : DCall Try.prog 16 [.agg [int ine, int area, int flo, int fhi, int thr], .agg [int lvl, int flow], .agg [int load, int fr]] (.tup [.agg [int (if steppedE ine area flo fhi thr lvl flow load fr = 0 then stepV area lvl (stepF ine thr lvl flow load fr) load else 0), int (if steppedE ine area flo fhi thr lvl flow load fr = 0 then stepF ine thr lvl flow load fr else 0)], int (steppedE ine area flo fhi thr lvl flow load fr)]) := by
  refine DCall.fnF hm Try.func16 rfl Try.ntmps16 Try.results16 (by kernel_rfl) (by kernel_rfl) (by kernel_rfl) rfl rfl (Nat.le_of_ble_eq_true rfl) ?_
  repeat' (conv => whnf); first
    | (refine RunE.cons ?_)
    | (refine RunD.cons ?_)
    | (refine valW.id ?_; first | (refine valW.int ?_) | (refine valW.bool ?_) | (refine valW.unit ?_) | ((first | refine valW.ptr ?_ ?_ ?_ | refine valW.el ?_ ?_ ?_); focus ((try simp only [List.length_cons, List.length_nil, List.take_succ_cons, List.take_zero, List.drop_succ_cons, List.drop_zero, List.cons_append, List.nil_append, List.append_nil, List.map_cons, List.map_nil, List.set_cons_zero, List.set_cons_succ, Nat.reduceAdd, Nat.reduceSub, Nat.reduceMul, splice, AS.setBox, AS.push, AS.pushes, AS.pushOwn, AS.setOwn, AV.cells]); first | done | rfl); focus (first | exact (rfl : _ = 0) | exact (rfl : _ = 1) | exact (rfl : _ = 2) | exact (rfl : _ = 3) | exact (rfl : _ = 4) | exact (rfl : _ = 5) | exact (rfl : _ = 6) | exact (rfl : _ = 7) | exact (rfl : _ = 8) | exact (rfl : _ = 9) | exact (rfl : _ = 10) | exact (rfl : _ = 11) | rfl)) | (refine valW.agg (cs' := [_, _]) rfl ?_) | (refine valW.agg (cs' := [_, _, _, _, _]) rfl ?_) | (refine valW.agg (cs' := [_, _, _, _]) rfl ?_) | (refine valW.agg (cs' := [_]) rfl ?_) | (refine valW.agg (cs' := [_, _, _]) rfl ?_) | (refine valW.agg (cs' := [_, _, _, _, _, _]) rfl ?_) | (refine valW.agg (cs' := [_, _, _, _, _, _, _]) rfl ?_) | (refine valW.agg (cs' := [_, _, _, _, _, _, _, _]) rfl ?_) | (refine valW.agg (cs' := [_, _, _, _, _, _, _, _, _]) rfl ?_) | (refine valW.agg (cs' := [_, _, _, _, _, _, _, _, _, _]) rfl ?_) | (refine valW.agg (cs' := [_, _, _, _, _, _, _, _, _, _, _]) rfl ?_) | (refine valW.agg (cs' := [_, _, _, _, _, _, _, _, _, _, _, _]) rfl ?_) | ((first | refine valW.agg ?_ ?_ | refine valW.sl ?_ ?_ | refine valW.tup ?_ ?_); focus ((try simp only [List.length_cons, List.length_nil, List.take_succ_cons, List.take_zero, List.drop_succ_cons, List.drop_zero, List.cons_append, List.nil_append, List.append_nil, List.map_cons, List.map_nil, List.set_cons_zero, List.set_cons_succ, Nat.reduceAdd, Nat.reduceSub, Nat.reduceMul, splice, AS.setBox, AS.push, AS.pushes, AS.pushOwn, AS.setOwn, AV.cells]); first | done | rfl)) | (refine valW.eq rfl ?_) | fail)
    | (refine stW.id ?_; first | (refine stW.eq (by first | (simp only [List.length_cons, List.length_nil, List.take_succ_cons, List.take_zero, List.drop_succ_cons, List.drop_zero, List.cons_append, List.nil_append, List.append_nil, List.map_cons, List.map_nil, List.set_cons_zero, List.set_cons_succ, Nat.reduceAdd, Nat.reduceSub, Nat.reduceMul, splice, AS.setBox, AS.push, AS.pushes, AS.pushOwn, AS.setOwn, AV.cells]; done) | (simp only [List.length_cons, List.length_nil, List.take_succ_cons, List.take_zero, List.drop_succ_cons, List.drop_zero, List.cons_append, List.nil_append, List.append_nil, List.map_cons, List.map_nil, List.set_cons_zero, List.set_cons_succ, Nat.reduceAdd, Nat.reduceSub, Nat.reduceMul, splice, AS.setBox, AS.push, AS.pushes, AS.pushOwn, AS.setOwn, AV.cells]; rfl) | rfl) ?_) | (refine stW.mk' ?_))
    | (refine RunE.nil ?_)
    | (refine RunD.nil ?_)
    | (refine RunC.seq ?_)
    | (refine RunC.regE ?_)
    | (refine RunC.regD (by kernel_rfl) ?_)
    | (refine RunC.cond ?_)
    | (refine RunC.block ?_)
    | (refine RunC.ret ?_)
    | (refine RunC.exit ?_)
    | (refine RunC.skip ?_)
    | (refine RunC.label ?_)
    | (refine callG.id ?_; first | (refine callG.by (c20 _ _ _ _ _ _ _) ?_) | (refine callG.by (c88 _) ?_) | (refine callG.by (c89 _ _ _ _ _ _) ?_) | (refine callG.by (c87 [_, _, _] (by simp)) ?_) | (refine callG.by (c90 _ _ _ _ _ _ _ _ _ (ine_of (by assumption)) (area_of (by assumption))) ?_) | fail)
    | (refine ACallH.id ?_; first | (refine ACallH.by (c20 _ _ _ _ _ _ _) ?_) | (refine ACallH.by (c88 _) ?_) | (refine ACallH.by (c89 _ _ _ _ _ _) ?_) | (refine ACallH.by (c87 [_, _, _] (by simp)) ?_) | (refine ACallH.by (c90 _ _ _ _ _ _ _ _ _ (ine_of (by assumption)) (area_of (by assumption))) ?_) | fail)
    | (refine ifH.id ?_; first | (refine ifH_isT (by assumption) ?_) | (refine ifH_isF (by assumption) ?_) | (refine ifH_pos (by assumption) ?_) | (refine ifH_neg (by assumption) ?_) | (refine ifH_isT rfl ?_) | (refine ifH_isF rfl ?_) | (refine ifH_not ?_) | (refine ifH_split (c := steppedE ine area flo fhi thr lvl flow load fr == 0) (fun h => ?_) (fun h => ?_)) | fail)
    | (refine someH.id ?_; first | (refine someH_of rfl ?_) | (refine someH_of (by assumption) ?_) | (refine someH_of azero_27 ?_) | (refine someH_of azero_45 ?_) | (refine someH_of azero_23 ?_) | (refine someH_of azero_60 ?_) | (refine someH_of azero_95 ?_) | (refine someH_of azero_63 ?_) | (refine someH_of azero_116 ?_) | (refine someH_of azero_114 ?_) | (refine someH_of azero_137 ?_) | (refine someH_of azero_57 ?_) | (refine someH_of aslc_61 ?_) | (refine someH_of azero_29 ?_) | (refine someH_of aslc_55 ?_) | (refine someH_of aslc_58 ?_) | (refine someH_of aslc_208 ?_) | (refine someH_of azero_160 ?_) | (refine someH_of azero_168 ?_) | (refine someH_of azero_173 ?_) | (refine someH_of azero_175 ?_) | (refine someH_of azero_3 ?_) | (refine someH_of azero_131 ?_) | (refine someH_of azero_25 ?_) | (refine someH_of azero_96 ?_) | (refine someH_of azero_55 ?_) | (refine someH_of azero_81 ?_) | (refine someH_of aslc_81 ?_) | (refine someH_of azero_4 ?_) | (refine someH_of azero_217 ?_) | (refine someH_of azero_129 ?_) | (refine someH_of azero_61 ?_) | (refine someH_of aslc_206 ?_) | (refine someH_of (aggEqw_27 _ _ _ _) ?_) | (refine someH_of (aggEqw_45 _ _ _ _ _ _ _ _) ?_) | (refine someH_of (aggEqw_116 _ _ _ _) ?_) | (refine someH_of (aggEqw_23 _ _ _ _) ?_) | fail)
    | (refine And.intro rfl ?_)
    | (refine And.intro (by assumption) ?_)
    | (refine And.intro (by decide) ?_)
    | fail
  all_goals (first
    | (have h' : steppedE ine area flo fhi thr lvl flow load fr = 0 := beq_true' h
       refine FinW.of (.tup [.agg [int _, int _], int _]) rfl ?_
       rw [if_pos h', if_pos h', h'])
    | (have h' : steppedE ine area flo fhi thr lvl flow load fr ≠ 0 := by simpa using h
       refine FinW.of (.tup [.agg [int _, int _], int _]) rfl ?_
       rw [if_neg h', if_neg h']
       rfl))
theorem mul_bound {a b A B : Int} (ha : -A ≤ a ∧ a ≤ A) (hb : -B ≤ b ∧ b ≤ B) : -(A * B) ≤ a * b ∧ a * b ≤ A * B := by
  have h1 : (a * b).natAbs ≤ (A * B).natAbs := by
    rw [Int.natAbs_mul, Int.natAbs_mul]
    exact Nat.mul_le_mul (by omega) (by omega)
  have h2 : 0 ≤ A * B := Int.mul_nonneg (by omega) (by omega)
  omega
theorem stateE_zero {lvl flow : Int} : stateE lvl flow = 0 ↔ (-100000 ≤ lvl ∧ lvl ≤ 100000) ∧ (-1000 ≤ flow ∧ flow ≤ 1000) := by
  rw [stateE, un_zero (by decide), Bool.and_eq_true, wi_true, wi_true]
theorem loadE_zero {n : Int} : loadE n = 0 ↔ 0 ≤ n ∧ n ≤ 1000 := by rw [loadE, un_zero (by decide), wi_true]
theorem fricE_zero {flo fhi k : Int} : fricE flo fhi k = 0 ↔ flo ≤ k ∧ k ≤ fhi := by rw [fricE, un_zero (by decide), wi_true]
theorem size_eq {n : Int} (h : -1000000 ≤ n ∧ n ≤ 1000000) : max n (IntKind.i64.wrap (0 - n)) = max n (-n) := by rw [w64 (by omega) (by omega)]; omega
theorem sq_eq {n : Int} (h : -2000 ≤ n ∧ n ≤ 2000) : sq n = n * max n (-n) ∧ -(2000 * 2000) ≤ n * max n (-n) ∧ n * max n (-n) ≤ 2000 * 2000 := by
  have hb := mul_bound h (b := max n (-n)) (B := 2000) (by omega)
  refine ⟨?_, hb⟩
  rw [sq, size_eq (by omega), w64 (by omega) (by omega)]
theorem loss_eq {c n : Int} (hc : 0 ≤ c ∧ c ≤ 100) (hn : -2000 ≤ n ∧ n ≤ 2000) : lossR c n = IntKind.i64.wrap ((IntKind.i64.wrap (c * sq n)).tdiv 1000) := by
  obtain ⟨e, hb⟩ := sq_eq hn
  have h1 := mul_bound (a := c) (A := 100) (by omega) hn
  have h2 := mul_bound (a := c) (A := 100) (by omega) hb
  have h3 : c * n * max n (-n) = c * (n * max n (-n)) := Int.mul_assoc ..
  rw [lossR, size_eq (by omega), e, w64 (x := c * n) (by omega) (by omega), h3]
theorem step_eq {ine area flo fhi thr lvl flow load fr : Int} (h1 : rulesE ine area flo fhi thr = 0) (h2 : stateE lvl flow = 0) (h3 : loadE load = 0) (h4 : fricE flo fhi fr = 0) :
    stepRF ine thr lvl flow load fr = stepF ine thr lvl flow load fr ∧ stepRV area lvl (stepF ine thr lvl flow load fr) load = stepV area lvl (stepF ine thr lvl flow load fr) load := by
  obtain ⟨_, _, ho, hh, ht, _, _⟩ := rulesE_zero h1
  rw [stateE_zero] at h2
  rw [loadE_zero] at h3
  rw [fricE_zero] at h4
  refine ⟨?_, rfl⟩
  have hw : IntKind.i64.wrap (flow - load) = flow - load := w64 (by omega) (by omega)
  rw [stepRF, stepF, hw, loss_eq (by omega) (by omega), loss_eq (by omega) (by omega)]
  omega

end Go.Proofs.Ytfjeopaaplnoaaa
