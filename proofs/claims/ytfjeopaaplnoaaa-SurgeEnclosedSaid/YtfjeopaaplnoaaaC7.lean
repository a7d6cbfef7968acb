/-
  THE STEP OF A BOX, or the errors; what it encloses.
-/
import Derived.Test.YtfjeopaaplnoaaaC5
import Derived.Test.YtfjeopaaplnoaaaC6
namespace Go.Proofs.Ytfjeopaaplnoaaa
open Go Go.RowKit Av
set_option maxRecDepth 100000
set_option maxHeartbeats 4000000
set_option linter.unusedSimpArgs false
set_option linter.unusedSectionVars false

def boxSE (ine area flo fhi thr llo lhi qlo qhi load : Int) : Int := firstL [firstL [rulesE ine area flo fhi thr, boxE llo lhi qlo qhi], loadE load]
theorem boxSE_zero {ine area flo fhi thr llo lhi qlo qhi load : Int} : boxSE ine area flo fhi thr llo lhi qlo qhi load = 0 ↔ rulesE ine area flo fhi thr = 0 ∧ boxE llo lhi qlo qhi = 0 ∧ loadE load = 0 := by
  simp [boxSE, firstL_zero, and_assoc]
theorem bine_of {ine area flo fhi thr llo lhi qlo qhi load : Int} (h : (boxSE ine area flo fhi thr llo lhi qlo qhi load == 0) = true) : ine ≠ 0 := by
  have := (rulesE_zero (boxSE_zero.1 (beq_true' h)).1).1; omega
theorem barea_of {ine area flo fhi thr llo lhi qlo qhi load : Int} (h : (boxSE ine area flo fhi thr llo lhi qlo qhi load == 0) = true) : area ≠ 0 := by
  have := (rulesE_zero (boxSE_zero.1 (beq_true' h)).1).2.1; omega
theorem c25 (ine area flo fhi thr : Int) (llo lhi qlo qhi load : Int) : DCall Try.prog 25 [.agg [int ine, int area, int flo, int fhi, int thr], .agg [int llo, int lhi, int qlo, int qhi], int load] (.tup [.agg [int (if boxSE ine area flo fhi thr llo lhi qlo qhi load = 0 then (min (sV ine area thr load flo llo qlo) (sV ine area thr load fhi llo qlo)) else 0), int (if boxSE ine area flo fhi thr llo lhi qlo qhi load = 0 then (max (sV ine area thr load flo lhi qhi) (sV ine area thr load fhi lhi qhi)) else 0), int (if boxSE ine area flo fhi thr llo lhi qlo qhi load = 0 then (min (sF ine thr load flo lhi qlo) (sF ine thr load fhi lhi qlo)) else 0), int (if boxSE ine area flo fhi thr llo lhi qlo qhi load = 0 then (max (sF ine thr load flo llo qhi) (sF ine thr load fhi llo qhi)) else 0)], int (boxSE ine area flo fhi thr llo lhi qlo qhi load)]) := by
  refine DCall.fnF hm Try.func25 rfl Try.ntmps25 Try.results25 (by kernel_rfl) (by kernel_rfl) (by kernel_rfl) rfl rfl (Nat.le_of_ble_eq_true rfl) ?_
  repeat' (conv => whnf); first
    | (refine RunE.cons ?_)
    | (refine RunD.cons ?_)
    | (refine valW.id ?_; first | (refine valW.int ?_) | (refine valW.bool ?_) | (refine valW.unit ?_) | ((first | refine valW.ptr ?_ ?_ ?_ | refine valW.el ?_ ?_ ?_); focus ((try simp only [List.length_cons, List.length_nil, List.take_succ_cons, List.take_zero, List.drop_succ_cons, List.drop_zero, List.cons_append, List.nil_append, List.append_nil, List.map_cons, List.map_nil, List.set_cons_zero, List.set_cons_succ, Nat.reduceAdd, Nat.reduceSub, Nat.reduceMul, splice, AS.setBox, AS.push, AS.pushes, AS.pushOwn, AS.setOwn, AV.cells]); first | done | rfl); focus (first | exact (rfl : _ = 0) | exact (rfl : _ = 1) | exact (rfl : _ = 2) | exact (rfl : _ = 3) | exact (rfl : _ = 4) | exact (rfl : _ = 5) | exact (rfl : _ = 6) | exact (rfl : _ = 7) | exact (rfl : _ = 8) | exact (rfl : _ = 9) | exact (rfl : _ = 10) | exact (rfl : _ = 11) | rfl)) | (refine valW.agg (cs' := [_, _]) rfl ?_) | (refine valW.agg (cs' := [_, _, _, _, _]) rfl ?_) | (refine valW.agg (cs' := [_, _, _, _]) rfl ?_) | (refine valW.agg (cs' := [_]) rfl ?_) | (refine valW.agg (cs' := [_, _, _]) rfl ?_) | (refine valW.agg (cs' := [_, _, _, _, _, _]) rfl ?_) | (refine valW.agg (cs' := [_, _, _, _, _, _, _]) rfl ?_) | (refine valW.agg (cs' := [_, _, _, _, _, _, _, _]) rfl ?_) | (refine valW.agg (cs' := [_, _, _, _, _, _, _, _, _]) rfl ?_) | (refine valW.agg (cs' := [_, _, _, _, _, _, _, _, _, _]) rfl ?_) | (refine valW.agg (cs' := [_, _, _, _, _, _, _, _, _, _, _]) rfl ?_) | (refine valW.agg (cs' := [_, _, _, _, _, _, _, _, _, _, _, _]) rfl ?_) | ((first | refine valW.agg ?_ ?_ | refine valW.sl ?_ ?_ | refine valW.tup ?_ ?_); focus ((try simp only [List.length_cons, List.length_nil, List.take_succ_cons, List.take_zero, List.drop_succ_cons, List.drop_zero, List.cons_append, List.nil_append, List.append_nil, List.map_cons, List.map_nil, List.set_cons_zero, List.set_cons_succ, Nat.reduceAdd, Nat.reduceSub, Nat.reduceMul, splice, AS.setBox, AS.push, AS.pushes, AS.pushOwn, AS.setOwn, AV.cells]); first | done | rfl)) | (refine valW.eq rfl ?_) | fail)
    | (refine stW.id ?_; first | (refine stW.eq (by first | (simp only [List.length_cons, List.length_nil, List.take_succ_cons, List.take_zero, List.drop_succ_cons, List.drop_zero, List.cons_append, List.nil_append, List.append_nil, List.map_cons, List.map_nil, List.set_cons_zero, List.set_cons_succ, Nat.reduceAdd, Nat.reduceSub, Nat.reduceMul, splice, AS.setBox, AS.push, AS.pushes, AS.pushOwn, AS.setOwn, AV.cells]; done) | (simp only [List.length_cons, List.length_nil, List.take_succ_cons, List.take_zero, List.drop_succ_cons, List.drop_zero, List.cons_append, List.nil_append, List.append_nil, List.map_cons, List.map_nil, List.set_cons_zero, List.set_cons_succ, Nat.reduceAdd, Nat.reduceSub, Nat.reduceMul, splice, AS.setBox, AS.push, AS.pushes, AS.pushOwn, AS.setOwn, AV.cells]; rfl) | rfl) ?_) | (refine stW.mk' ?_))
    | (refine RunE.nil ?_)
    | (refine RunD.nil ?_)
    | (refine RunC.seq ?_)
    | (refine RunC.regE ?_)
    | (refine RunC.regD (by kernel_rfl) ?_)
    | (refine RunC.cond ?_)
    | (refine RunC.block ?_)
    | (refine RunC.ret ?_)
    | (refine RunC.exit ?_)
    | (refine RunC.skip ?_)
    | (refine RunC.label ?_)
    | (refine callG.id ?_; first | (refine callG.by (c55 _ _ _ _ _ _ _ _ _) ?_) | (refine callG.by (c88 _) ?_) | (refine callG.by (c87 [_, _] (by simp)) ?_) | (refine callG.by (c98 _ _ _ _ _ _ _ _ _ _ (bine_of (by assumption)) (barea_of (by assumption))) ?_) | fail)
    | (refine ACallH.id ?_; first | (refine ACallH.by (c55 _ _ _ _ _ _ _ _ _) ?_) | (refine ACallH.by (c88 _) ?_) | (refine ACallH.by (c87 [_, _] (by simp)) ?_) | (refine ACallH.by (c98 _ _ _ _ _ _ _ _ _ _ (bine_of (by assumption)) (barea_of (by assumption))) ?_) | fail)
    | (refine ifH.id ?_; first | (refine ifH_isT (by assumption) ?_) | (refine ifH_isF (by assumption) ?_) | (refine ifH_pos (by assumption) ?_) | (refine ifH_neg (by assumption) ?_) | (refine ifH_isT rfl ?_) | (refine ifH_isF rfl ?_) | (refine ifH_not ?_) | (refine ifH_split (c := boxSE ine area flo fhi thr llo lhi qlo qhi load == 0) (fun h => ?_) (fun h => ?_)) | fail)
    | (refine someH.id ?_; first | (refine someH_of rfl ?_) | (refine someH_of (by assumption) ?_) | (refine someH_of azero_27 ?_) | (refine someH_of azero_45 ?_) | (refine someH_of azero_23 ?_) | (refine someH_of azero_60 ?_) | (refine someH_of azero_95 ?_) | (refine someH_of azero_63 ?_) | (refine someH_of azero_116 ?_) | (refine someH_of azero_114 ?_) | (refine someH_of azero_137 ?_) | (refine someH_of azero_57 ?_) | (refine someH_of aslc_61 ?_) | (refine someH_of azero_29 ?_) | (refine someH_of aslc_55 ?_) | (refine someH_of aslc_58 ?_) | (refine someH_of aslc_208 ?_) | (refine someH_of azero_160 ?_) | (refine someH_of azero_168 ?_) | (refine someH_of azero_173 ?_) | (refine someH_of azero_175 ?_) | (refine someH_of azero_3 ?_) | (refine someH_of azero_131 ?_) | (refine someH_of azero_25 ?_) | (refine someH_of azero_96 ?_) | (refine someH_of azero_55 ?_) | (refine someH_of azero_81 ?_) | (refine someH_of aslc_81 ?_) | (refine someH_of azero_4 ?_) | (refine someH_of azero_217 ?_) | (refine someH_of azero_129 ?_) | (refine someH_of azero_61 ?_) | (refine someH_of aslc_206 ?_) | (refine someH_of (aggEqw_27 _ _ _ _) ?_) | (refine someH_of (aggEqw_45 _ _ _ _ _ _ _ _) ?_) | (refine someH_of (aggEqw_116 _ _ _ _) ?_) | (refine someH_of (aggEqw_23 _ _ _ _) ?_) | fail)
    | (refine And.intro rfl ?_)
    | (refine And.intro (by assumption) ?_)
    | (refine And.intro (by decide) ?_)
    | fail
  all_goals (first
    | (have h' : boxSE ine area flo fhi thr llo lhi qlo qhi load = 0 := beq_true' h
       refine FinW.of (.tup [.agg [int _, int _, int _, int _], int _]) rfl ?_
       rw [if_pos h', if_pos h', if_pos h', if_pos h', h'])
    | (have h' : boxSE ine area flo fhi thr llo lhi qlo qhi load ≠ 0 := by simpa using h
       refine FinW.of (.tup [.agg [int _, int _, int _, int _], int _]) rfl ?_
       rw [if_neg h', if_neg h', if_neg h', if_neg h']
       rfl))

theorem c16v (ine area flo fhi thr : Int) (lvl flow load fr : Int) (h : steppedE ine area flo fhi thr lvl flow load fr = 0) : DCall Try.prog 16 [.agg [int ine, int area, int flo, int fhi, int thr], .agg [int lvl, int flow], .agg [int load, int fr]] (.tup [.agg [int (sV ine area thr load fr lvl flow), int (sF ine thr load fr lvl flow)], int 0]) := by
  have := c16 ine area flo fhi thr lvl flow load fr
  rwa [if_pos h, if_pos h, h] at this
theorem c25v (ine area flo fhi thr : Int) (llo lhi qlo qhi load : Int) (h : boxSE ine area flo fhi thr llo lhi qlo qhi load = 0) : DCall Try.prog 25 [.agg [int ine, int area, int flo, int fhi, int thr], .agg [int llo, int lhi, int qlo, int qhi], int load] (.tup [.agg [int (min (sV ine area thr load flo llo qlo) (sV ine area thr load fhi llo qlo)), int (max (sV ine area thr load flo lhi qhi) (sV ine area thr load fhi lhi qhi)), int (min (sF ine thr load flo lhi qlo) (sF ine thr load fhi lhi qlo)), int (max (sF ine thr load flo llo qhi) (sF ine thr load fhi llo qhi))], int 0]) := by
  have := c25 ine area flo fhi thr llo lhi qlo qhi load
  rwa [if_pos h, if_pos h, if_pos h, if_pos h, h] at this

section
variable {ine area flo fhi thr load : Int} (V : Valid ine area flo fhi thr) (hu : 0 ≤ load ∧ load ≤ 1000)
include V hu
theorem sV_mono {k lvl lvl' flow flow' : Int} (hk : flo ≤ k ∧ k ≤ fhi) (hl : -1000000000 ≤ lvl) (hll : lvl ≤ lvl') (hl' : lvl' ≤ 1000000000) (hq : -1000 ≤ flow) (hqq : flow ≤ flow') (hq' : flow' ≤ 1000) :
    sV ine area thr load k lvl flow ≤ sV ine area thr load k lvl' flow' := by
  have a := (cross_lvl V (flow := flow) (load := load) (fr := k) (lvl := lvl) (lvl' := lvl') (by omega) (by omega) hll (by omega) hu hk).2
  have b := (cross_flow V (lvl := lvl') (flow := flow) (flow' := flow') (load := load) (fr := k) (by omega) hq hqq hq' hu hk).2
  exact Int.le_trans a b
theorem sF_mono {k lvl lvl' flow flow' : Int} (hk : flo ≤ k ∧ k ≤ fhi) (hl : -1000000000 ≤ lvl') (hll : lvl' ≤ lvl) (hl' : lvl ≤ 1000000000) (hq : -1000 ≤ flow) (hqq : flow ≤ flow') (hq' : flow' ≤ 1000) :
    sF ine thr load k lvl flow ≤ sF ine thr load k lvl' flow' := by
  have a := (cross_lvl V (flow := flow) (load := load) (fr := k) (lvl := lvl') (lvl' := lvl) (by omega) (by omega) hll (by omega) hu hk).1
  have b := (cross_flow V (lvl := lvl') (flow := flow) (flow' := flow') (load := load) (fr := k) (by omega) hq hqq hq' hu hk).1
  exact Int.le_trans a b
theorem sF_bound {k lvl flow : Int} (hk : flo ≤ k ∧ k ≤ fhi) (hl : -1000000000 ≤ lvl ∧ lvl ≤ 1000000000) (hq : -1000 ≤ flow ∧ flow ≤ 1000) : -1000 ≤ sF ine thr load k lvl flow ∧ sF ine thr load k lvl flow ≤ 1000 := by
  obtain ⟨a, _⟩ := step_both V hl hq hu hk
  unfold sF
  rw [a]
  exact flowI_bound
theorem s_between {k lvl flow : Int} (hk : flo ≤ k ∧ k ≤ fhi) (hl : -1000000000 ≤ lvl ∧ lvl ≤ 1000000000) (hq : -1000 ≤ flow ∧ flow ≤ 1000) :
    (min (sF ine thr load flo lvl flow) (sF ine thr load fhi lvl flow) ≤ sF ine thr load k lvl flow ∧ sF ine thr load k lvl flow ≤ max (sF ine thr load flo lvl flow) (sF ine thr load fhi lvl flow)) ∧
    (min (sV ine area thr load flo lvl flow) (sV ine area thr load fhi lvl flow) ≤ sV ine area thr load k lvl flow ∧ sV ine area thr load k lvl flow ≤ max (sV ine area thr load flo lvl flow) (sV ine area thr load fhi lvl flow)) := by
  have hle := V.le
  obtain ⟨a1, a2⟩ := step_both V hl hq hu hk
  obtain ⟨b1, b2⟩ := step_both V hl hq hu (fr := flo) ⟨Int.le_refl _, hle⟩
  obtain ⟨c1, c2⟩ := step_both V hl hq hu (fr := fhi) ⟨hle, Int.le_refl _⟩
  have hb := flow_between V (lvl := lvl) (flow := flow) (load := load) hk.1 hk.2
  unfold sF sV
  rw [a2, b2, c2, a1, b1, c1]
  refine ⟨hb, ?_⟩
  have m1 := fun x y (h : x ≤ y) => lvl_mono V (lvl := lvl) (load := load) (fl := x) (fl' := y) h
  by_cases h : flowI ine thr lvl flow load flo ≤ flowI ine thr lvl flow load fhi
  · have p := m1 _ _ (show flowI ine thr lvl flow load flo ≤ flowI ine thr lvl flow load k by omega)
    have q := m1 _ _ (show flowI ine thr lvl flow load k ≤ flowI ine thr lvl flow load fhi by omega)
    omega
  · have p := m1 _ _ (show flowI ine thr lvl flow load fhi ≤ flowI ine thr lvl flow load k by omega)
    have q := m1 _ _ (show flowI ine thr lvl flow load k ≤ flowI ine thr lvl flow load flo by omega)
    omega
end
end Go.Proofs.Ytfjeopaaplnoaaa
