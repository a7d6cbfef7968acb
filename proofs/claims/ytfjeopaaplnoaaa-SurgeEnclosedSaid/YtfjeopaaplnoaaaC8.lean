/-
  ENCLOSED: the law SurgeEnclosed on values.
-/
import Derived.Test.YtfjeopaaplnoaaaC7
import Derived.Test.YtfjeopaaplnoaaaAvW
namespace Go.Proofs.Ytfjeopaaplnoaaa
open Go Go.RowKit Av
set_option maxRecDepth 100000
set_option maxHeartbeats 8000000
set_option linter.unusedSimpArgs false
set_option linter.unusedVariables false

theorem closedL_map {α : Type} (f : α → AV) (l : List α) (h : ∀ x, closedB (f x) = true) : closedL (l.map f) = true := by
  induction l with
  | nil => rfl
  | cons a l ih => simp [closedL, h, ih]
def stp (q : Int × Int) : AV := .agg [int q.1, int q.2]
structure EncD where
  i : Nat
  b0 : Int
  b1 : Int
  b2 : Int
  b3 : Int
  s0 : Int
  s1 : Int
  m0 : Int
  m1 : Int
  m2 : Int
  m3 : Int
def encS (ine area flo fhi thr x0 x1 x2 x3 z q : Int) (d : EncD) : AS := ⟨[[int ine, int area, int flo, int fhi, int thr], [int x0, int x1, int x2, int x3, int z, int q], [int d.b0, int d.b1, int d.b2, int d.b3], [int d.s0, int d.s1], [int d.m0, int d.m1, int d.m2, int d.m3]], [], []⟩
def encF (ls : List (Int × Int)) (d : EncD) : List (Nat × AV) := [(2, .sl .ro 2 (ls.map stp)), (3, .ptr 0 0), (7, .ptr 2 0), (8, .ptr 3 0), (9, .ptr 4 0), (10, int d.i)]
structure EncP (ls : List (Int × Int)) (d : EncD) : Prop where
  i : d.i ≤ ls.length
  b : -100000 ≤ d.b0 ∧ d.b1 ≤ 100000 ∧ -1000 ≤ d.b2 ∧ d.b3 ≤ 1000
  m : d.b0 ≤ d.m0 ∧ d.m1 ≤ d.b1 ∧ d.b2 ≤ d.m2 ∧ d.m3 ≤ d.b3
  s : d.m0 ≤ d.s0 ∧ d.s0 ≤ d.m1 ∧ d.m2 ≤ d.s1 ∧ d.s1 ≤ d.m3

theorem enc_step {ine area flo fhi thr l k b0 b1 b2 b3 s0 s1 m0 m1 m2 m3 : Int} (V : Valid ine area flo fhi thr) (hu : 0 ≤ l ∧ l ≤ 1000) (hk : flo ≤ k ∧ k ≤ fhi)
    (hb : -100000 ≤ b0 ∧ b1 ≤ 100000 ∧ -1000 ≤ b2 ∧ b3 ≤ 1000) (hm : b0 ≤ m0 ∧ m1 ≤ b1 ∧ b2 ≤ m2 ∧ m3 ≤ b3) (hs : m0 ≤ s0 ∧ s0 ≤ m1 ∧ m2 ≤ s1 ∧ s1 ≤ m3) :
    ((min (sV ine area thr l flo b0 b2) (sV ine area thr l fhi b0 b2)) ≤ (min (sV ine area thr l flo m0 m2) (sV ine area thr l fhi m0 m2)) ∧ (min (sV ine area thr l flo m0 m2) (sV ine area thr l fhi m0 m2)) ≤ sV ine area thr l k s0 s1 ∧ sV ine area thr l k s0 s1 ≤ (max (sV ine area thr l flo m1 m3) (sV ine area thr l fhi m1 m3)) ∧ (max (sV ine area thr l flo m1 m3) (sV ine area thr l fhi m1 m3)) ≤ (max (sV ine area thr l flo b1 b3) (sV ine area thr l fhi b1 b3))) ∧
    ((min (sF ine thr l flo b1 b2) (sF ine thr l fhi b1 b2)) ≤ (min (sF ine thr l flo m1 m2) (sF ine thr l fhi m1 m2)) ∧ (min (sF ine thr l flo m1 m2) (sF ine thr l fhi m1 m2)) ≤ sF ine thr l k s0 s1 ∧ sF ine thr l k s0 s1 ≤ (max (sF ine thr l flo m0 m3) (sF ine thr l fhi m0 m3)) ∧ (max (sF ine thr l flo m0 m3) (sF ine thr l fhi m0 m3)) ≤ (max (sF ine thr l flo b0 b3) (sF ine thr l fhi b0 b3))) ∧
    (-1000 ≤ (min (sF ine thr l flo b1 b2) (sF ine thr l fhi b1 b2)) ∧ (max (sF ine thr l flo b0 b3) (sF ine thr l fhi b0 b3)) ≤ 1000) := by
  have hlo : flo ≤ flo ∧ flo ≤ fhi := ⟨Int.le_refl _, V.le⟩
  have hhi : flo ≤ fhi ∧ fhi ≤ fhi := ⟨V.le, Int.le_refl _⟩
  have a1 := sV_mono V hu hlo (lvl := b0) (flow := b2) (lvl' := m0) (flow' := m2) (by omega) (by omega) (by omega) (by omega) (by omega) (by omega)
  have a2 := sV_mono V hu hlo (lvl := m1) (flow := m3) (lvl' := b1) (flow' := b3) (by omega) (by omega) (by omega) (by omega) (by omega) (by omega)
  have a3 := sF_mono V hu hlo (lvl := b1) (flow := b2) (lvl' := m1) (flow' := m2) (by omega) (by omega) (by omega) (by omega) (by omega) (by omega)
  have a4 := sF_mono V hu hlo (lvl := m0) (flow := m3) (lvl' := b0) (flow' := b3) (by omega) (by omega) (by omega) (by omega) (by omega) (by omega)
  have a5 := sF_bound V hu hlo (lvl := b1) (flow := b2) (by omega) (by omega)
  have a6 := sF_bound V hu hlo (lvl := b0) (flow := b3) (by omega) (by omega)
  have a7 := sV_mono V hu hhi (lvl := b0) (flow := b2) (lvl' := m0) (flow' := m2) (by omega) (by omega) (by omega) (by omega) (by omega) (by omega)
  have a8 := sV_mono V hu hhi (lvl := m1) (flow := m3) (lvl' := b1) (flow' := b3) (by omega) (by omega) (by omega) (by omega) (by omega) (by omega)
  have a9 := sF_mono V hu hhi (lvl := b1) (flow := b2) (lvl' := m1) (flow' := m2) (by omega) (by omega) (by omega) (by omega) (by omega) (by omega)
  have a10 := sF_mono V hu hhi (lvl := m0) (flow := m3) (lvl' := b0) (flow' := b3) (by omega) (by omega) (by omega) (by omega) (by omega) (by omega)
  have a11 := sF_bound V hu hhi (lvl := b1) (flow := b2) (by omega) (by omega)
  have a12 := sF_bound V hu hhi (lvl := b0) (flow := b3) (by omega) (by omega)
  have a13 := sV_mono V hu hk (lvl := m0) (flow := m2) (lvl' := s0) (flow' := s1) (by omega) (by omega) (by omega) (by omega) (by omega) (by omega)
  have a14 := sV_mono V hu hk (lvl := s0) (flow := s1) (lvl' := m1) (flow' := m3) (by omega) (by omega) (by omega) (by omega) (by omega) (by omega)
  have a15 := sF_mono V hu hk (lvl := m1) (flow := m2) (lvl' := s0) (flow' := s1) (by omega) (by omega) (by omega) (by omega) (by omega) (by omega)
  have a16 := sF_mono V hu hk (lvl := s0) (flow := s1) (lvl' := m0) (flow' := m3) (by omega) (by omega) (by omega) (by omega) (by omega) (by omega)
  have a17 := s_between V hu hk (lvl := m0) (flow := m2) (by omega) (by omega)
  have a18 := s_between V hu hk (lvl := m1) (flow := m3) (by omega) (by omega)
  have a19 := s_between V hu hk (lvl := m1) (flow := m2) (by omega) (by omega)
  have a20 := s_between V hu hk (lvl := m0) (flow := m3) (by omega) (by omega)
  omega

theorem c5 (ine area flo fhi thr : Int) (x0 x1 x2 x3 z q : Int) (ls : List (Int × Int)) : DCall Try.prog 5 [.agg [int ine, int area, int flo, int fhi, int thr], .agg [int x0, int x1, int x2, int x3, int z, int q], .sl .ro 2 (ls.map stp)] (bool true) := by
  refine DCall.fnF hm Try.func5 rfl Try.ntmps5 Try.results5 (by kernel_rfl) (by kernel_rfl) (by kernel_rfl) (by simp [closedL, closedB, closedL_map stp ls (fun _ => rfl)]) rfl (Nat.le_of_ble_eq_true rfl) ?_
  by_cases h1 : rulesE ine area flo fhi thr = 0
  case neg =>
    repeat' (conv => whnf); first
      | (refine RunE.cons ?_)
      | (refine RunD.cons ?_)
      | (refine valW.id ?_; first | (refine valW.int ?_) | (refine valW.bool ?_) | (refine valW.unit ?_) | ((first | refine valW.ptr ?_ ?_ ?_ | refine valW.el ?_ ?_ ?_); focus ((try simp only [List.length_cons, List.length_nil, List.take_succ_cons, List.take_zero, List.drop_succ_cons, List.drop_zero, List.cons_append, List.nil_append, List.append_nil, List.map_cons, List.map_nil, List.set_cons_zero, List.set_cons_succ, Nat.reduceAdd, Nat.reduceSub, Nat.reduceMul, splice, AS.setBox, AS.push, AS.pushes, AS.pushOwn, AS.setOwn, AV.cells]); first | done | rfl); focus (first | exact (rfl : _ = 0) | exact (rfl : _ = 1) | exact (rfl : _ = 2) | exact (rfl : _ = 3) | exact (rfl : _ = 4) | exact (rfl : _ = 5) | exact (rfl : _ = 6) | exact (rfl : _ = 7) | exact (rfl : _ = 8) | exact (rfl : _ = 9) | exact (rfl : _ = 10) | exact (rfl : _ = 11) | rfl)) | (refine valW.agg (cs' := [_, _]) rfl ?_) | (refine valW.agg (cs' := [_, _, _, _, _]) rfl ?_) | (refine valW.agg (cs' := [_, _, _, _]) rfl ?_) | (refine valW.agg (cs' := [_]) rfl ?_) | (refine valW.agg (cs' := [_, _, _]) rfl ?_) | (refine valW.agg (cs' := [_, _, _, _, _, _]) rfl ?_) | (refine valW.agg (cs' := [_, _, _, _, _, _, _]) rfl ?_) | (refine valW.agg (cs' := [_, _, _, _, _, _, _, _]) rfl ?_) | (refine valW.agg (cs' := [_, _, _, _, _, _, _, _, _]) rfl ?_) | (refine valW.agg (cs' := [_, _, _, _, _, _, _, _, _, _]) rfl ?_) | (refine valW.agg (cs' := [_, _, _, _, _, _, _, _, _, _, _]) rfl ?_) | (refine valW.agg (cs' := [_, _, _, _, _, _, _, _, _, _, _, _]) rfl ?_) | ((first | refine valW.agg ?_ ?_ | refine valW.sl ?_ ?_ | refine valW.tup ?_ ?_); focus ((try simp only [List.length_cons, List.length_nil, List.take_succ_cons, List.take_zero, List.drop_succ_cons, List.drop_zero, List.cons_append, List.nil_append, List.append_nil, List.map_cons, List.map_nil, List.set_cons_zero, List.set_cons_succ, Nat.reduceAdd, Nat.reduceSub, Nat.reduceMul, splice, AS.setBox, AS.push, AS.pushes, AS.pushOwn, AS.setOwn, AV.cells]); first | done | rfl)) | (refine valW.eq rfl ?_) | fail)
      | (refine stW.id ?_; first | (refine stW.eq (by first | (simp only [List.length_cons, List.length_nil, List.take_succ_cons, List.take_zero, List.drop_succ_cons, List.drop_zero, List.cons_append, List.nil_append, List.append_nil, List.map_cons, List.map_nil, List.set_cons_zero, List.set_cons_succ, Nat.reduceAdd, Nat.reduceSub, Nat.reduceMul, splice, AS.setBox, AS.push, AS.pushes, AS.pushOwn, AS.setOwn, AV.cells]; done) | (simp only [List.length_cons, List.length_nil, List.take_succ_cons, List.take_zero, List.drop_succ_cons, List.drop_zero, List.cons_append, List.nil_append, List.append_nil, List.map_cons, List.map_nil, List.set_cons_zero, List.set_cons_succ, Nat.reduceAdd, Nat.reduceSub, Nat.reduceMul, splice, AS.setBox, AS.push, AS.pushes, AS.pushOwn, AS.setOwn, AV.cells]; rfl) | rfl) ?_) | (refine stW.mk' ?_))
      | (refine RunE.nil ?_)
      | (refine RunD.nil ?_)
      | (refine RunC.seq ?_)
      | (refine RunC.regE ?_)
      | (refine RunC.regL (id := 3) (ms := [0, 1, 0, 4, 0, 0, 51, 127]) (by kernel_rfl) ?_)
      | (refine RunC.regL (id := 6) (ms := [0, 1, 3, 0, 8, 24, 0, 64, 248, 511, 0, 1024, 3072, 0, 8192, 24576, 0, 65536, 253952, 523264, 197631, 1246207, 4194303, 8388607]) (by kernel_rfl) ?_)
      | (refine RunC.regL (id := 20) (ms := [0, 0, 0, 1, 11, 31]) (by kernel_rfl) ?_)
      | (refine RunC.regD (by kernel_rfl) ?_)
      | (refine RunL.cons ?_)
      | (refine RunL.nil ?_)
      | (refine LateH.by (by (repeat' (conv => whnf); first | exact trivial | exact bitW.skip rfl | exact bitW.use rfl | (refine ⟨?_, ?_⟩))) ?_)
      | (refine RunC.cond ?_)
      | (refine RunC.block ?_)
      | (refine RunC.ret ?_)
      | (refine RunC.exit ?_)
      | (refine RunC.skip ?_)
      | (refine RunC.label ?_)
      | (refine callG.id ?_; first | (refine callG.by (c15) ?_) | (refine callG.by (c17 _ _ _ _ _) ?_) | (refine callG.by (c24 _ _ _ _) ?_) | (refine callG.by (c19 _ _) ?_) | (refine callG.by (c21 _) ?_) | (refine callG.by (c22 _ _ _ _ _ _) ?_) | (refine callG.by (c26 _ _ _ _ _ _) ?_) | (refine callG.by (c27 _ _ _) ?_) | fail)
      | (refine ACallH.id ?_; first | (refine ACallH.by (c15) ?_) | (refine ACallH.by (c17 _ _ _ _ _) ?_) | (refine ACallH.by (c24 _ _ _ _) ?_) | (refine ACallH.by (c19 _ _) ?_) | (refine ACallH.by (c21 _) ?_) | (refine ACallH.by (c22 _ _ _ _ _ _) ?_) | (refine ACallH.by (c26 _ _ _ _ _ _) ?_) | (refine ACallH.by (c27 _ _ _) ?_) | fail)
      | (refine ifH.id ?_; first | (refine ifH_isT (by assumption) ?_) | (refine ifH_isF (by assumption) ?_) | (refine ifH_pos (by assumption) ?_) | (refine ifH_neg (by assumption) ?_) | (refine ifH_isT rfl ?_) | (refine ifH_isF rfl ?_) | (refine ifH_not ?_) | (refine ifH_isT ?_ ?_; focus (simp [h1]; done)) | (refine ifH_isF ?_ ?_; focus (simp [h1]; done)) | fail)
      | (refine someH.id ?_; first | (refine someH_of rfl ?_) | (refine someH_of (by assumption) ?_) | (refine someH_of azero_27 ?_) | (refine someH_of azero_45 ?_) | (refine someH_of azero_23 ?_) | (refine someH_of azero_60 ?_) | (refine someH_of azero_95 ?_) | (refine someH_of azero_63 ?_) | (refine someH_of azero_116 ?_) | (refine someH_of azero_114 ?_) | (refine someH_of azero_137 ?_) | (refine someH_of azero_57 ?_) | (refine someH_of aslc_61 ?_) | (refine someH_of azero_29 ?_) | (refine someH_of aslc_55 ?_) | (refine someH_of aslc_58 ?_) | (refine someH_of aslc_208 ?_) | (refine someH_of azero_160 ?_) | (refine someH_of azero_168 ?_) | (refine someH_of azero_173 ?_) | (refine someH_of azero_175 ?_) | (refine someH_of azero_3 ?_) | (refine someH_of azero_131 ?_) | (refine someH_of azero_25 ?_) | (refine someH_of azero_96 ?_) | (refine someH_of azero_55 ?_) | (refine someH_of azero_81 ?_) | (refine someH_of aslc_81 ?_) | (refine someH_of azero_4 ?_) | (refine someH_of azero_217 ?_) | (refine someH_of azero_129 ?_) | (refine someH_of azero_61 ?_) | (refine someH_of aslc_206 ?_) | (refine someH_of (aggEqw_27 _ _ _ _) ?_) | (refine someH_of (aggEqw_45 _ _ _ _ _ _ _ _) ?_) | (refine someH_of (aggEqw_116 _ _ _ _) ?_) | (refine someH_of (aggEqw_23 _ _ _ _) ?_) | fail)
      | (refine And.intro rfl ?_)
      | (refine And.intro (by assumption) ?_)
      | (refine And.intro (by decide) ?_)
      | fail
    all_goals (exact FinW.of (bool _) rfl (by simp [h1]))
  by_cases h2 : boxE x0 x1 x2 x3 = 0
  case neg =>
    repeat' (conv => whnf); first
      | (refine RunE.cons ?_)
      | (refine RunD.cons ?_)
      | (refine valW.id ?_; first | (refine valW.int ?_) | (refine valW.bool ?_) | (refine valW.unit ?_) | ((first | refine valW.ptr ?_ ?_ ?_ | refine valW.el ?_ ?_ ?_); focus ((try simp only [List.length_cons, List.length_nil, List.take_succ_cons, List.take_zero, List.drop_succ_cons, List.drop_zero, List.cons_append, List.nil_append, List.append_nil, List.map_cons, List.map_nil, List.set_cons_zero, List.set_cons_succ, Nat.reduceAdd, Nat.reduceSub, Nat.reduceMul, splice, AS.setBox, AS.push, AS.pushes, AS.pushOwn, AS.setOwn, AV.cells]); first | done | rfl); focus (first | exact (rfl : _ = 0) | exact (rfl : _ = 1) | exact (rfl : _ = 2) | exact (rfl : _ = 3) | exact (rfl : _ = 4) | exact (rfl : _ = 5) | exact (rfl : _ = 6) | exact (rfl : _ = 7) | exact (rfl : _ = 8) | exact (rfl : _ = 9) | exact (rfl : _ = 10) | exact (rfl : _ = 11) | rfl)) | (refine valW.agg (cs' := [_, _]) rfl ?_) | (refine valW.agg (cs' := [_, _, _, _, _]) rfl ?_) | (refine valW.agg (cs' := [_, _, _, _]) rfl ?_) | (refine valW.agg (cs' := [_]) rfl ?_) | (refine valW.agg (cs' := [_, _, _]) rfl ?_) | (refine valW.agg (cs' := [_, _, _, _, _, _]) rfl ?_) | (refine valW.agg (cs' := [_, _, _, _, _, _, _]) rfl ?_) | (refine valW.agg (cs' := [_, _, _, _, _, _, _, _]) rfl ?_) | (refine valW.agg (cs' := [_, _, _, _, _, _, _, _, _]) rfl ?_) | (refine valW.agg (cs' := [_, _, _, _, _, _, _, _, _, _]) rfl ?_) | (refine valW.agg (cs' := [_, _, _, _, _, _, _, _, _, _, _]) rfl ?_) | (refine valW.agg (cs' := [_, _, _, _, _, _, _, _, _, _, _, _]) rfl ?_) | ((first | refine valW.agg ?_ ?_ | refine valW.sl ?_ ?_ | refine valW.tup ?_ ?_); focus ((try simp only [List.length_cons, List.length_nil, List.take_succ_cons, List.take_zero, List.drop_succ_cons, List.drop_zero, List.cons_append, List.nil_append, List.append_nil, List.map_cons, List.map_nil, List.set_cons_zero, List.set_cons_succ, Nat.reduceAdd, Nat.reduceSub, Nat.reduceMul, splice, AS.setBox, AS.push, AS.pushes, AS.pushOwn, AS.setOwn, AV.cells]); first | done | rfl)) | (refine valW.eq rfl ?_) | fail)
      | (refine stW.id ?_; first | (refine stW.eq (by first | (simp only [List.length_cons, List.length_nil, List.take_succ_cons, List.take_zero, List.drop_succ_cons, List.drop_zero, List.cons_append, List.nil_append, List.append_nil, List.map_cons, List.map_nil, List.set_cons_zero, List.set_cons_succ, Nat.reduceAdd, Nat.reduceSub, Nat.reduceMul, splice, AS.setBox, AS.push, AS.pushes, AS.pushOwn, AS.setOwn, AV.cells]; done) | (simp only [List.length_cons, List.length_nil, List.take_succ_cons, List.take_zero, List.drop_succ_cons, List.drop_zero, List.cons_append, List.nil_append, List.append_nil, List.map_cons, List.map_nil, List.set_cons_zero, List.set_cons_succ, Nat.reduceAdd, Nat.reduceSub, Nat.reduceMul, splice, AS.setBox, AS.push, AS.pushes, AS.pushOwn, AS.setOwn, AV.cells]; rfl) | rfl) ?_) | (refine stW.mk' ?_))
      | (refine RunE.nil ?_)
      | (refine RunD.nil ?_)
      | (refine RunC.seq ?_)
      | (refine RunC.regE ?_)
      | (refine RunC.regL (id := 3) (ms := [0, 1, 0, 4, 0, 0, 51, 127]) (by kernel_rfl) ?_)
      | (refine RunC.regL (id := 6) (ms := [0, 1, 3, 0, 8, 24, 0, 64, 248, 511, 0, 1024, 3072, 0, 8192, 24576, 0, 65536, 253952, 523264, 197631, 1246207, 4194303, 8388607]) (by kernel_rfl) ?_)
      | (refine RunC.regL (id := 20) (ms := [0, 0, 0, 1, 11, 31]) (by kernel_rfl) ?_)
      | (refine RunC.regD (by kernel_rfl) ?_)
      | (refine RunL.cons ?_)
      | (refine RunL.nil ?_)
      | (refine LateH.by (by (repeat' (conv => whnf); first | exact trivial | exact bitW.skip rfl | exact bitW.use rfl | (refine ⟨?_, ?_⟩))) ?_)
      | (refine RunC.cond ?_)
      | (refine RunC.block ?_)
      | (refine RunC.ret ?_)
      | (refine RunC.exit ?_)
      | (refine RunC.skip ?_)
      | (refine RunC.label ?_)
      | (refine callG.id ?_; first | (refine callG.by (c15) ?_) | (refine callG.by (c17 _ _ _ _ _) ?_) | (refine callG.by (c24 _ _ _ _) ?_) | (refine callG.by (c19 _ _) ?_) | (refine callG.by (c21 _) ?_) | (refine callG.by (c22 _ _ _ _ _ _) ?_) | (refine callG.by (c26 _ _ _ _ _ _) ?_) | (refine callG.by (c27 _ _ _) ?_) | fail)
      | (refine ACallH.id ?_; first | (refine ACallH.by (c15) ?_) | (refine ACallH.by (c17 _ _ _ _ _) ?_) | (refine ACallH.by (c24 _ _ _ _) ?_) | (refine ACallH.by (c19 _ _) ?_) | (refine ACallH.by (c21 _) ?_) | (refine ACallH.by (c22 _ _ _ _ _ _) ?_) | (refine ACallH.by (c26 _ _ _ _ _ _) ?_) | (refine ACallH.by (c27 _ _ _) ?_) | fail)
      | (refine ifH.id ?_; first | (refine ifH_isT (by assumption) ?_) | (refine ifH_isF (by assumption) ?_) | (refine ifH_pos (by assumption) ?_) | (refine ifH_neg (by assumption) ?_) | (refine ifH_isT rfl ?_) | (refine ifH_isF rfl ?_) | (refine ifH_not ?_) | (refine ifH_isT ?_ ?_; focus (simp [h1, h2]; done)) | (refine ifH_isF ?_ ?_; focus (simp [h1, h2]; done)) | fail)
      | (refine someH.id ?_; first | (refine someH_of rfl ?_) | (refine someH_of (by assumption) ?_) | (refine someH_of azero_27 ?_) | (refine someH_of azero_45 ?_) | (refine someH_of azero_23 ?_) | (refine someH_of azero_60 ?_) | (refine someH_of azero_95 ?_) | (refine someH_of azero_63 ?_) | (refine someH_of azero_116 ?_) | (refine someH_of azero_114 ?_) | (refine someH_of azero_137 ?_) | (refine someH_of azero_57 ?_) | (refine someH_of aslc_61 ?_) | (refine someH_of azero_29 ?_) | (refine someH_of aslc_55 ?_) | (refine someH_of aslc_58 ?_) | (refine someH_of aslc_208 ?_) | (refine someH_of azero_160 ?_) | (refine someH_of azero_168 ?_) | (refine someH_of azero_173 ?_) | (refine someH_of azero_175 ?_) | (refine someH_of azero_3 ?_) | (refine someH_of azero_131 ?_) | (refine someH_of azero_25 ?_) | (refine someH_of azero_96 ?_) | (refine someH_of azero_55 ?_) | (refine someH_of azero_81 ?_) | (refine someH_of aslc_81 ?_) | (refine someH_of azero_4 ?_) | (refine someH_of azero_217 ?_) | (refine someH_of azero_129 ?_) | (refine someH_of azero_61 ?_) | (refine someH_of aslc_206 ?_) | (refine someH_of (aggEqw_27 _ _ _ _) ?_) | (refine someH_of (aggEqw_45 _ _ _ _ _ _ _ _) ?_) | (refine someH_of (aggEqw_116 _ _ _ _) ?_) | (refine someH_of (aggEqw_23 _ _ _ _) ?_) | fail)
      | (refine And.intro rfl ?_)
      | (refine And.intro (by assumption) ?_)
      | (refine And.intro (by decide) ?_)
      | fail
    all_goals (exact FinW.of (bool _) rfl (by simp [h1, h2]))
  by_cases h3 : (20 : Int) < ((ls.map stp).length : Nat)
  case pos =>
    repeat' (conv => whnf); first
      | (refine RunE.cons ?_)
      | (refine RunD.cons ?_)
      | (refine valW.id ?_; first | (refine valW.int ?_) | (refine valW.bool ?_) | (refine valW.unit ?_) | ((first | refine valW.ptr ?_ ?_ ?_ | refine valW.el ?_ ?_ ?_); focus ((try simp only [List.length_cons, List.length_nil, List.take_succ_cons, List.take_zero, List.drop_succ_cons, List.drop_zero, List.cons_append, List.nil_append, List.append_nil, List.map_cons, List.map_nil, List.set_cons_zero, List.set_cons_succ, Nat.reduceAdd, Nat.reduceSub, Nat.reduceMul, splice, AS.setBox, AS.push, AS.pushes, AS.pushOwn, AS.setOwn, AV.cells]); first | done | rfl); focus (first | exact (rfl : _ = 0) | exact (rfl : _ = 1) | exact (rfl : _ = 2) | exact (rfl : _ = 3) | exact (rfl : _ = 4) | exact (rfl : _ = 5) | exact (rfl : _ = 6) | exact (rfl : _ = 7) | exact (rfl : _ = 8) | exact (rfl : _ = 9) | exact (rfl : _ = 10) | exact (rfl : _ = 11) | rfl)) | (refine valW.agg (cs' := [_, _]) rfl ?_) | (refine valW.agg (cs' := [_, _, _, _, _]) rfl ?_) | (refine valW.agg (cs' := [_, _, _, _]) rfl ?_) | (refine valW.agg (cs' := [_]) rfl ?_) | (refine valW.agg (cs' := [_, _, _]) rfl ?_) | (refine valW.agg (cs' := [_, _, _, _, _, _]) rfl ?_) | (refine valW.agg (cs' := [_, _, _, _, _, _, _]) rfl ?_) | (refine valW.agg (cs' := [_, _, _, _, _, _, _, _]) rfl ?_) | (refine valW.agg (cs' := [_, _, _, _, _, _, _, _, _]) rfl ?_) | (refine valW.agg (cs' := [_, _, _, _, _, _, _, _, _, _]) rfl ?_) | (refine valW.agg (cs' := [_, _, _, _, _, _, _, _, _, _, _]) rfl ?_) | (refine valW.agg (cs' := [_, _, _, _, _, _, _, _, _, _, _, _]) rfl ?_) | ((first | refine valW.agg ?_ ?_ | refine valW.sl ?_ ?_ | refine valW.tup ?_ ?_); focus ((try simp only [List.length_cons, List.length_nil, List.take_succ_cons, List.take_zero, List.drop_succ_cons, List.drop_zero, List.cons_append, List.nil_append, List.append_nil, List.map_cons, List.map_nil, List.set_cons_zero, List.set_cons_succ, Nat.reduceAdd, Nat.reduceSub, Nat.reduceMul, splice, AS.setBox, AS.push, AS.pushes, AS.pushOwn, AS.setOwn, AV.cells]); first | done | rfl)) | (refine valW.eq rfl ?_) | fail)
      | (refine stW.id ?_; first | (refine stW.eq (by first | (simp only [List.length_cons, List.length_nil, List.take_succ_cons, List.take_zero, List.drop_succ_cons, List.drop_zero, List.cons_append, List.nil_append, List.append_nil, List.map_cons, List.map_nil, List.set_cons_zero, List.set_cons_succ, Nat.reduceAdd, Nat.reduceSub, Nat.reduceMul, splice, AS.setBox, AS.push, AS.pushes, AS.pushOwn, AS.setOwn, AV.cells]; done) | (simp only [List.length_cons, List.length_nil, List.take_succ_cons, List.take_zero, List.drop_succ_cons, List.drop_zero, List.cons_append, List.nil_append, List.append_nil, List.map_cons, List.map_nil, List.set_cons_zero, List.set_cons_succ, Nat.reduceAdd, Nat.reduceSub, Nat.reduceMul, splice, AS.setBox, AS.push, AS.pushes, AS.pushOwn, AS.setOwn, AV.cells]; rfl) | rfl) ?_) | (refine stW.mk' ?_))
      | (refine RunE.nil ?_)
      | (refine RunD.nil ?_)
      | (refine RunC.seq ?_)
      | (refine RunC.regE ?_)
      | (refine RunC.regL (id := 3) (ms := [0, 1, 0, 4, 0, 0, 51, 127]) (by kernel_rfl) ?_)
      | (refine RunC.regL (id := 6) (ms := [0, 1, 3, 0, 8, 24, 0, 64, 248, 511, 0, 1024, 3072, 0, 8192, 24576, 0, 65536, 253952, 523264, 197631, 1246207, 4194303, 8388607]) (by kernel_rfl) ?_)
      | (refine RunC.regL (id := 20) (ms := [0, 0, 0, 1, 11, 31]) (by kernel_rfl) ?_)
      | (refine RunC.regD (by kernel_rfl) ?_)
      | (refine RunL.cons ?_)
      | (refine RunL.nil ?_)
      | (refine LateH.by (by (repeat' (conv => whnf); first | exact trivial | exact bitW.skip rfl | exact bitW.use rfl | (refine ⟨?_, ?_⟩))) ?_)
      | (refine RunC.cond ?_)
      | (refine RunC.block ?_)
      | (refine RunC.ret ?_)
      | (refine RunC.exit ?_)
      | (refine RunC.skip ?_)
      | (refine RunC.label ?_)
      | (refine callG.id ?_; first | (refine callG.by (c15) ?_) | (refine callG.by (c17 _ _ _ _ _) ?_) | (refine callG.by (c24 _ _ _ _) ?_) | (refine callG.by (c19 _ _) ?_) | (refine callG.by (c21 _) ?_) | (refine callG.by (c22 _ _ _ _ _ _) ?_) | (refine callG.by (c26 _ _ _ _ _ _) ?_) | (refine callG.by (c27 _ _ _) ?_) | fail)
      | (refine ACallH.id ?_; first | (refine ACallH.by (c15) ?_) | (refine ACallH.by (c17 _ _ _ _ _) ?_) | (refine ACallH.by (c24 _ _ _ _) ?_) | (refine ACallH.by (c19 _ _) ?_) | (refine ACallH.by (c21 _) ?_) | (refine ACallH.by (c22 _ _ _ _ _ _) ?_) | (refine ACallH.by (c26 _ _ _ _ _ _) ?_) | (refine ACallH.by (c27 _ _ _) ?_) | fail)
      | (refine ifH.id ?_; first | (refine ifH_isT (by assumption) ?_) | (refine ifH_isF (by assumption) ?_) | (refine ifH_pos (by assumption) ?_) | (refine ifH_neg (by assumption) ?_) | (refine ifH_isT rfl ?_) | (refine ifH_isF rfl ?_) | (refine ifH_not ?_) | (refine ifH_isT ?_ ?_; focus (simp [h1, h2, h3]; done)) | (refine ifH_isF ?_ ?_; focus (simp [h1, h2, h3]; done)) | fail)
      | (refine someH.id ?_; first | (refine someH_of rfl ?_) | (refine someH_of (by assumption) ?_) | (refine someH_of azero_27 ?_) | (refine someH_of azero_45 ?_) | (refine someH_of azero_23 ?_) | (refine someH_of azero_60 ?_) | (refine someH_of azero_95 ?_) | (refine someH_of azero_63 ?_) | (refine someH_of azero_116 ?_) | (refine someH_of azero_114 ?_) | (refine someH_of azero_137 ?_) | (refine someH_of azero_57 ?_) | (refine someH_of aslc_61 ?_) | (refine someH_of azero_29 ?_) | (refine someH_of aslc_55 ?_) | (refine someH_of aslc_58 ?_) | (refine someH_of aslc_208 ?_) | (refine someH_of azero_160 ?_) | (refine someH_of azero_168 ?_) | (refine someH_of azero_173 ?_) | (refine someH_of azero_175 ?_) | (refine someH_of azero_3 ?_) | (refine someH_of azero_131 ?_) | (refine someH_of azero_25 ?_) | (refine someH_of azero_96 ?_) | (refine someH_of azero_55 ?_) | (refine someH_of azero_81 ?_) | (refine someH_of aslc_81 ?_) | (refine someH_of azero_4 ?_) | (refine someH_of azero_217 ?_) | (refine someH_of azero_129 ?_) | (refine someH_of azero_61 ?_) | (refine someH_of aslc_206 ?_) | (refine someH_of (aggEqw_27 _ _ _ _) ?_) | (refine someH_of (aggEqw_45 _ _ _ _ _ _ _ _) ?_) | (refine someH_of (aggEqw_116 _ _ _ _) ?_) | (refine someH_of (aggEqw_23 _ _ _ _) ?_) | fail)
      | (refine And.intro rfl ?_)
      | (refine And.intro (by assumption) ?_)
      | (refine And.intro (by decide) ?_)
      | fail
    all_goals (exact FinW.of (bool _) rfl (by simp [h1, h2, h3]))
  have V := Valid.of h1
  have hb := boxE_zero.1 h2
  have hl20 : ls.length ≤ 20 := by simp at h3; omega
  repeat' (conv => whnf); first
    | (refine RunE.cons ?_)
    | (refine RunD.cons ?_)
    | (refine valW.id ?_; first | (refine valW.int ?_) | (refine valW.bool ?_) | (refine valW.unit ?_) | ((first | refine valW.ptr ?_ ?_ ?_ | refine valW.el ?_ ?_ ?_); focus ((try simp only [List.length_cons, List.length_nil, List.take_succ_cons, List.take_zero, List.drop_succ_cons, List.drop_zero, List.cons_append, List.nil_append, List.append_nil, List.map_cons, List.map_nil, List.set_cons_zero, List.set_cons_succ, Nat.reduceAdd, Nat.reduceSub, Nat.reduceMul, splice, AS.setBox, AS.push, AS.pushes, AS.pushOwn, AS.setOwn, AV.cells]); first | done | rfl); focus (first | exact (rfl : _ = 0) | exact (rfl : _ = 1) | exact (rfl : _ = 2) | exact (rfl : _ = 3) | exact (rfl : _ = 4) | exact (rfl : _ = 5) | exact (rfl : _ = 6) | exact (rfl : _ = 7) | exact (rfl : _ = 8) | exact (rfl : _ = 9) | exact (rfl : _ = 10) | exact (rfl : _ = 11) | rfl)) | (refine valW.agg (cs' := [_, _]) rfl ?_) | (refine valW.agg (cs' := [_, _, _, _, _]) rfl ?_) | (refine valW.agg (cs' := [_, _, _, _]) rfl ?_) | (refine valW.agg (cs' := [_]) rfl ?_) | (refine valW.agg (cs' := [_, _, _]) rfl ?_) | (refine valW.agg (cs' := [_, _, _, _, _, _]) rfl ?_) | (refine valW.agg (cs' := [_, _, _, _, _, _, _]) rfl ?_) | (refine valW.agg (cs' := [_, _, _, _, _, _, _, _]) rfl ?_) | (refine valW.agg (cs' := [_, _, _, _, _, _, _, _, _]) rfl ?_) | (refine valW.agg (cs' := [_, _, _, _, _, _, _, _, _, _]) rfl ?_) | (refine valW.agg (cs' := [_, _, _, _, _, _, _, _, _, _, _]) rfl ?_) | (refine valW.agg (cs' := [_, _, _, _, _, _, _, _, _, _, _, _]) rfl ?_) | ((first | refine valW.agg ?_ ?_ | refine valW.sl ?_ ?_ | refine valW.tup ?_ ?_); focus ((try simp only [List.length_cons, List.length_nil, List.take_succ_cons, List.take_zero, List.drop_succ_cons, List.drop_zero, List.cons_append, List.nil_append, List.append_nil, List.map_cons, List.map_nil, List.set_cons_zero, List.set_cons_succ, Nat.reduceAdd, Nat.reduceSub, Nat.reduceMul, splice, AS.setBox, AS.push, AS.pushes, AS.pushOwn, AS.setOwn, AV.cells]); first | done | rfl)) | (refine valW.eq rfl ?_) | fail)
    | (refine stW.id ?_; first | (refine stW.eq (by first | (simp only [List.length_cons, List.length_nil, List.take_succ_cons, List.take_zero, List.drop_succ_cons, List.drop_zero, List.cons_append, List.nil_append, List.append_nil, List.map_cons, List.map_nil, List.set_cons_zero, List.set_cons_succ, Nat.reduceAdd, Nat.reduceSub, Nat.reduceMul, splice, AS.setBox, AS.push, AS.pushes, AS.pushOwn, AS.setOwn, AV.cells]; done) | (simp only [List.length_cons, List.length_nil, List.take_succ_cons, List.take_zero, List.drop_succ_cons, List.drop_zero, List.cons_append, List.nil_append, List.append_nil, List.map_cons, List.map_nil, List.set_cons_zero, List.set_cons_succ, Nat.reduceAdd, Nat.reduceSub, Nat.reduceMul, splice, AS.setBox, AS.push, AS.pushes, AS.pushOwn, AS.setOwn, AV.cells]; rfl) | rfl) ?_) | (refine stW.mk' ?_))
    | (refine RunE.nil ?_)
    | (refine RunD.nil ?_)
    | (refine RunC.seq ?_)
    | (refine RunC.regE ?_)
    | (refine RunC.regL (id := 3) (ms := [0, 1, 0, 4, 0, 0, 51, 127]) (by kernel_rfl) ?_)
    | (refine RunC.regL (id := 6) (ms := [0, 1, 3, 0, 8, 24, 0, 64, 248, 511, 0, 1024, 3072, 0, 8192, 24576, 0, 65536, 253952, 523264, 197631, 1246207, 4194303, 8388607]) (by kernel_rfl) ?_)
    | (refine RunC.regL (id := 20) (ms := [0, 0, 0, 1, 11, 31]) (by kernel_rfl) ?_)
    | (refine RunC.regD (by kernel_rfl) ?_)
    | (refine RunL.cons ?_)
    | (refine RunL.nil ?_)
    | (refine LateH.by (by (repeat' (conv => whnf); first | exact trivial | exact bitW.skip rfl | exact bitW.use rfl | (refine ⟨?_, ?_⟩))) ?_)
    | (refine RunC.cond ?_)
    | (refine RunC.block ?_)
    | (refine RunC.ret ?_)
    | (refine RunC.exit ?_)
    | (refine RunC.skip ?_)
    | (refine RunC.label ?_)
    | (refine callG.id ?_; first | (refine callG.by (c15) ?_) | (refine callG.by (c17 _ _ _ _ _) ?_) | (refine callG.by (c24 _ _ _ _) ?_) | (refine callG.by (c19 _ _) ?_) | (refine callG.by (c21 _) ?_) | (refine callG.by (c22 _ _ _ _ _ _) ?_) | (refine callG.by (c26 _ _ _ _ _ _) ?_) | (refine callG.by (c27 _ _ _) ?_) | fail)
    | (refine ACallH.id ?_; first | (refine ACallH.by (c15) ?_) | (refine ACallH.by (c17 _ _ _ _ _) ?_) | (refine ACallH.by (c24 _ _ _ _) ?_) | (refine ACallH.by (c19 _ _) ?_) | (refine ACallH.by (c21 _) ?_) | (refine ACallH.by (c22 _ _ _ _ _ _) ?_) | (refine ACallH.by (c26 _ _ _ _ _ _) ?_) | (refine ACallH.by (c27 _ _ _) ?_) | fail)
    | (refine ifH.id ?_; first | (refine ifH_isT (by assumption) ?_) | (refine ifH_isF (by assumption) ?_) | (refine ifH_pos (by assumption) ?_) | (refine ifH_neg (by assumption) ?_) | (refine ifH_isT rfl ?_) | (refine ifH_isF rfl ?_) | (refine ifH_not ?_) | (refine ifH_isT ?_ ?_; focus (simp [h1, h2, h3]; done)) | (refine ifH_isF ?_ ?_; focus (simp [h1, h2, h3]; done)) | fail)
    | (refine someH.id ?_; first | (refine someH_of rfl ?_) | (refine someH_of (by assumption) ?_) | (refine someH_of azero_27 ?_) | (refine someH_of azero_45 ?_) | (refine someH_of azero_23 ?_) | (refine someH_of azero_60 ?_) | (refine someH_of azero_95 ?_) | (refine someH_of azero_63 ?_) | (refine someH_of azero_116 ?_) | (refine someH_of azero_114 ?_) | (refine someH_of azero_137 ?_) | (refine someH_of azero_57 ?_) | (refine someH_of aslc_61 ?_) | (refine someH_of azero_29 ?_) | (refine someH_of aslc_55 ?_) | (refine someH_of aslc_58 ?_) | (refine someH_of aslc_208 ?_) | (refine someH_of azero_160 ?_) | (refine someH_of azero_168 ?_) | (refine someH_of azero_173 ?_) | (refine someH_of azero_175 ?_) | (refine someH_of azero_3 ?_) | (refine someH_of azero_131 ?_) | (refine someH_of azero_25 ?_) | (refine someH_of azero_96 ?_) | (refine someH_of azero_55 ?_) | (refine someH_of azero_81 ?_) | (refine someH_of aslc_81 ?_) | (refine someH_of azero_4 ?_) | (refine someH_of azero_217 ?_) | (refine someH_of azero_129 ?_) | (refine someH_of azero_61 ?_) | (refine someH_of aslc_206 ?_) | (refine someH_of (aggEqw_27 _ _ _ _) ?_) | (refine someH_of (aggEqw_45 _ _ _ _ _ _ _ _) ?_) | (refine someH_of (aggEqw_116 _ _ _ _) ?_) | (refine someH_of (aggEqw_23 _ _ _ _) ?_) | fail)
    | (refine And.intro rfl ?_)
    | (refine And.intro (by assumption) ?_)
    | (refine And.intro (by decide) ?_)
    | fail
  all_goals (skip)
  refine RunC.loop (by kernel_rfl) (by kernel_rfl) (AWlF.while (EncP ls) (fun d => ls.length - d.i) (encS ine area flo fhi thr x0 x1 x2 x3 z q) (encF ls) (fun _ _ => ⟨rfl, rfl, rfl⟩) (fun _ _ => rfl) (fun d _ => ?_)
    ⟨0, x0, x1, x2, x3, min x1 (max x0 z), min x3 (max x2 q), x0, min x1 (max x0 z), min x3 (max x2 q), x3⟩ ⟨Nat.zero_le _, by simp only; omega, by simp only; omega, by simp only; omega⟩ rfl ⟨rfl, rfl, rfl, rfl, rfl, rfl, trivial⟩ ?_)
  · intro q hq
    simp only [encF, List.mem_cons, List.not_mem_nil, or_false] at hq
    rcases hq with rfl | rfl | rfl | rfl | rfl | rfl
    · exact wfbL_map stp ls (fun _ => rfl)
    all_goals rfl
  · rintro ⟨i, b0, b1, b2, b3, s0, s1, m0, m1, m2, m3⟩ st ⟨pi, pb, pm, ps⟩ hf
    obtain ⟨st, rfl⟩ : ∃ s, st = upds s _ := ⟨st, (upds_of hf).symm⟩
    clear hf
    simp only at pi pb pm ps
    dsimp only [encS, encF, upds]
    have h0 : 0 ≤ (i : Int) := by omega
    have hw : IntKind.i64.wrap ((i : Int) + 1) = ((i + 1 : Nat) : Int) := by rw [w64 (by omega) (by omega)]; omega
    by_cases hi : (i : Int) < ((ls.map stp).length : Nat)
    case neg =>
        repeat' (conv => whnf); first
          | (refine RunE.cons ?_)
          | (refine RunD.cons ?_)
          | (refine valW.id ?_; first | (refine valW.int ?_) | (refine valW.bool ?_) | (refine valW.unit ?_) | ((first | refine valW.ptr ?_ ?_ ?_ | refine valW.el ?_ ?_ ?_); focus ((try simp only [List.length_cons, List.length_nil, List.take_succ_cons, List.take_zero, List.drop_succ_cons, List.drop_zero, List.cons_append, List.nil_append, List.append_nil, List.map_cons, List.map_nil, List.set_cons_zero, List.set_cons_succ, Nat.reduceAdd, Nat.reduceSub, Nat.reduceMul, splice, AS.setBox, AS.push, AS.pushes, AS.pushOwn, AS.setOwn, AV.cells]); first | done | rfl); focus (first | exact (rfl : _ = 0) | exact (rfl : _ = 1) | exact (rfl : _ = 2) | exact (rfl : _ = 3) | exact (rfl : _ = 4) | exact (rfl : _ = 5) | exact (rfl : _ = 6) | exact (rfl : _ = 7) | exact (rfl : _ = 8) | exact (rfl : _ = 9) | exact (rfl : _ = 10) | exact (rfl : _ = 11) | rfl)) | (refine valW.agg (cs' := [_, _]) rfl ?_) | (refine valW.agg (cs' := [_, _, _, _, _]) rfl ?_) | (refine valW.agg (cs' := [_, _, _, _]) rfl ?_) | (refine valW.agg (cs' := [_]) rfl ?_) | (refine valW.agg (cs' := [_, _, _]) rfl ?_) | (refine valW.agg (cs' := [_, _, _, _, _, _]) rfl ?_) | (refine valW.agg (cs' := [_, _, _, _, _, _, _]) rfl ?_) | (refine valW.agg (cs' := [_, _, _, _, _, _, _, _]) rfl ?_) | (refine valW.agg (cs' := [_, _, _, _, _, _, _, _, _]) rfl ?_) | (refine valW.agg (cs' := [_, _, _, _, _, _, _, _, _, _]) rfl ?_) | (refine valW.agg (cs' := [_, _, _, _, _, _, _, _, _, _, _]) rfl ?_) | (refine valW.agg (cs' := [_, _, _, _, _, _, _, _, _, _, _, _]) rfl ?_) | ((first | refine valW.agg ?_ ?_ | refine valW.sl ?_ ?_ | refine valW.tup ?_ ?_); focus ((try simp only [List.length_cons, List.length_nil, List.take_succ_cons, List.take_zero, List.drop_succ_cons, List.drop_zero, List.cons_append, List.nil_append, List.append_nil, List.map_cons, List.map_nil, List.set_cons_zero, List.set_cons_succ, Nat.reduceAdd, Nat.reduceSub, Nat.reduceMul, splice, AS.setBox, AS.push, AS.pushes, AS.pushOwn, AS.setOwn, AV.cells]); first | done | rfl)) | (refine valW.eq rfl ?_) | fail)
          | (refine stW.id ?_; first | (refine stW.eq (by first | (simp only [List.length_cons, List.length_nil, List.take_succ_cons, List.take_zero, List.drop_succ_cons, List.drop_zero, List.cons_append, List.nil_append, List.append_nil, List.map_cons, List.map_nil, List.set_cons_zero, List.set_cons_succ, Nat.reduceAdd, Nat.reduceSub, Nat.reduceMul, splice, AS.setBox, AS.push, AS.pushes, AS.pushOwn, AS.setOwn, AV.cells]; done) | (simp only [List.length_cons, List.length_nil, List.take_succ_cons, List.take_zero, List.drop_succ_cons, List.drop_zero, List.cons_append, List.nil_append, List.append_nil, List.map_cons, List.map_nil, List.set_cons_zero, List.set_cons_succ, Nat.reduceAdd, Nat.reduceSub, Nat.reduceMul, splice, AS.setBox, AS.push, AS.pushes, AS.pushOwn, AS.setOwn, AV.cells]; rfl) | rfl) ?_) | (refine stW.mk' ?_))
          | (refine RunE.nil ?_)
          | (refine RunD.nil ?_)
          | (refine RunC.seq ?_)
          | (refine RunC.regE ?_)
          | (refine RunC.regL (id := 3) (ms := [0, 1, 0, 4, 0, 0, 51, 127]) (by kernel_rfl) ?_)
          | (refine RunC.regL (id := 6) (ms := [0, 1, 3, 0, 8, 24, 0, 64, 248, 511, 0, 1024, 3072, 0, 8192, 24576, 0, 65536, 253952, 523264, 197631, 1246207, 4194303, 8388607]) (by kernel_rfl) ?_)
          | (refine RunC.regL (id := 20) (ms := [0, 0, 0, 1, 11, 31]) (by kernel_rfl) ?_)
          | (refine RunC.regD (by kernel_rfl) ?_)
          | (refine RunL.cons ?_)
          | (refine RunL.nil ?_)
          | (refine LateH.by (by (repeat' (conv => whnf); first | exact trivial | exact bitW.skip rfl | exact bitW.use rfl | (refine ⟨?_, ?_⟩))) ?_)
          | (refine RunC.cond ?_)
          | (refine RunC.block ?_)
          | (refine RunC.ret ?_)
          | (refine RunC.exit ?_)
          | (refine RunC.skip ?_)
          | (refine RunC.label ?_)
          | (refine callG.id ?_; first | (refine callG.by (c15) ?_) | (refine callG.by (c17 _ _ _ _ _) ?_) | (refine callG.by (c24 _ _ _ _) ?_) | (refine callG.by (c19 _ _) ?_) | (refine callG.by (c21 _) ?_) | (refine callG.by (c22 _ _ _ _ _ _) ?_) | (refine callG.by (c26 _ _ _ _ _ _) ?_) | (refine callG.by (c27 _ _ _) ?_) | fail)
          | (refine ACallH.id ?_; first | (refine ACallH.by (c15) ?_) | (refine ACallH.by (c17 _ _ _ _ _) ?_) | (refine ACallH.by (c24 _ _ _ _) ?_) | (refine ACallH.by (c19 _ _) ?_) | (refine ACallH.by (c21 _) ?_) | (refine ACallH.by (c22 _ _ _ _ _ _) ?_) | (refine ACallH.by (c26 _ _ _ _ _ _) ?_) | (refine ACallH.by (c27 _ _ _) ?_) | fail)
          | (refine ifH.id ?_; first | (refine ifH_isT (by assumption) ?_) | (refine ifH_isF (by assumption) ?_) | (refine ifH_pos (by assumption) ?_) | (refine ifH_neg (by assumption) ?_) | (refine ifH_isT rfl ?_) | (refine ifH_isF rfl ?_) | (refine ifH_not ?_) | (refine ifH_isT ?_ ?_; focus (simp [hi]; done)) | (refine ifH_isF ?_ ?_; focus (simp [hi]; done)) | fail)
          | (refine someH.id ?_; first | (refine someH_of rfl ?_) | (refine someH_of (by assumption) ?_) | (refine someH_of azero_27 ?_) | (refine someH_of azero_45 ?_) | (refine someH_of azero_23 ?_) | (refine someH_of azero_60 ?_) | (refine someH_of azero_95 ?_) | (refine someH_of azero_63 ?_) | (refine someH_of azero_116 ?_) | (refine someH_of azero_114 ?_) | (refine someH_of azero_137 ?_) | (refine someH_of azero_57 ?_) | (refine someH_of aslc_61 ?_) | (refine someH_of azero_29 ?_) | (refine someH_of aslc_55 ?_) | (refine someH_of aslc_58 ?_) | (refine someH_of aslc_208 ?_) | (refine someH_of azero_160 ?_) | (refine someH_of azero_168 ?_) | (refine someH_of azero_173 ?_) | (refine someH_of azero_175 ?_) | (refine someH_of azero_3 ?_) | (refine someH_of azero_131 ?_) | (refine someH_of azero_25 ?_) | (refine someH_of azero_96 ?_) | (refine someH_of azero_55 ?_) | (refine someH_of azero_81 ?_) | (refine someH_of aslc_81 ?_) | (refine someH_of azero_4 ?_) | (refine someH_of azero_217 ?_) | (refine someH_of azero_129 ?_) | (refine someH_of azero_61 ?_) | (refine someH_of aslc_206 ?_) | (refine someH_of (aggEqw_27 _ _ _ _) ?_) | (refine someH_of (aggEqw_45 _ _ _ _ _ _ _ _) ?_) | (refine someH_of (aggEqw_116 _ _ _ _) ?_) | (refine someH_of (aggEqw_23 _ _ _ _) ?_) | fail)
          | (refine And.intro rfl ?_)
          | (refine And.intro (by assumption) ?_)
          | (refine And.intro (by decide) ?_)
          | fail
        all_goals (exact FinW.of (bool _) rfl (by simp [hi]))

    have hil : i < ls.length := by simp at hi; omega
    obtain ⟨l, k, hlk⟩ : ∃ l k, ls[i] = (l, k) := ⟨_, _, rfl⟩
    have hget : (ls.map stp)[(i : Int).toNat]? = some (.agg [int l, int k]) := by simp [hil, hlk, stp]
    by_cases h4 : loadE l = 0
    case neg =>
        repeat' (conv => whnf); first
          | (refine RunE.cons ?_)
          | (refine RunD.cons ?_)
          | (refine valW.id ?_; first | (refine valW.int ?_) | (refine valW.bool ?_) | (refine valW.unit ?_) | ((first | refine valW.ptr ?_ ?_ ?_ | refine valW.el ?_ ?_ ?_); focus ((try simp only [List.length_cons, List.length_nil, List.take_succ_cons, List.take_zero, List.drop_succ_cons, List.drop_zero, List.cons_append, List.nil_append, List.append_nil, List.map_cons, List.map_nil, List.set_cons_zero, List.set_cons_succ, Nat.reduceAdd, Nat.reduceSub, Nat.reduceMul, splice, AS.setBox, AS.push, AS.pushes, AS.pushOwn, AS.setOwn, AV.cells]); first | done | rfl); focus (first | exact (rfl : _ = 0) | exact (rfl : _ = 1) | exact (rfl : _ = 2) | exact (rfl : _ = 3) | exact (rfl : _ = 4) | exact (rfl : _ = 5) | exact (rfl : _ = 6) | exact (rfl : _ = 7) | exact (rfl : _ = 8) | exact (rfl : _ = 9) | exact (rfl : _ = 10) | exact (rfl : _ = 11) | rfl)) | (refine valW.agg (cs' := [_, _]) rfl ?_) | (refine valW.agg (cs' := [_, _, _, _, _]) rfl ?_) | (refine valW.agg (cs' := [_, _, _, _]) rfl ?_) | (refine valW.agg (cs' := [_]) rfl ?_) | (refine valW.agg (cs' := [_, _, _]) rfl ?_) | (refine valW.agg (cs' := [_, _, _, _, _, _]) rfl ?_) | (refine valW.agg (cs' := [_, _, _, _, _, _, _]) rfl ?_) | (refine valW.agg (cs' := [_, _, _, _, _, _, _, _]) rfl ?_) | (refine valW.agg (cs' := [_, _, _, _, _, _, _, _, _]) rfl ?_) | (refine valW.agg (cs' := [_, _, _, _, _, _, _, _, _, _]) rfl ?_) | (refine valW.agg (cs' := [_, _, _, _, _, _, _, _, _, _, _]) rfl ?_) | (refine valW.agg (cs' := [_, _, _, _, _, _, _, _, _, _, _, _]) rfl ?_) | ((first | refine valW.agg ?_ ?_ | refine valW.sl ?_ ?_ | refine valW.tup ?_ ?_); focus ((try simp only [List.length_cons, List.length_nil, List.take_succ_cons, List.take_zero, List.drop_succ_cons, List.drop_zero, List.cons_append, List.nil_append, List.append_nil, List.map_cons, List.map_nil, List.set_cons_zero, List.set_cons_succ, Nat.reduceAdd, Nat.reduceSub, Nat.reduceMul, splice, AS.setBox, AS.push, AS.pushes, AS.pushOwn, AS.setOwn, AV.cells]); first | done | rfl)) | (refine valW.eq rfl ?_) | fail)
          | (refine stW.id ?_; first | (refine stW.eq (by first | (simp only [List.length_cons, List.length_nil, List.take_succ_cons, List.take_zero, List.drop_succ_cons, List.drop_zero, List.cons_append, List.nil_append, List.append_nil, List.map_cons, List.map_nil, List.set_cons_zero, List.set_cons_succ, Nat.reduceAdd, Nat.reduceSub, Nat.reduceMul, splice, AS.setBox, AS.push, AS.pushes, AS.pushOwn, AS.setOwn, AV.cells]; done) | (simp only [List.length_cons, List.length_nil, List.take_succ_cons, List.take_zero, List.drop_succ_cons, List.drop_zero, List.cons_append, List.nil_append, List.append_nil, List.map_cons, List.map_nil, List.set_cons_zero, List.set_cons_succ, Nat.reduceAdd, Nat.reduceSub, Nat.reduceMul, splice, AS.setBox, AS.push, AS.pushes, AS.pushOwn, AS.setOwn, AV.cells]; rfl) | rfl) ?_) | (refine stW.mk' ?_))
          | (refine RunE.nil ?_)
          | (refine RunD.nil ?_)
          | (refine RunC.seq ?_)
          | (refine RunC.regE ?_)
          | (refine RunC.regL (id := 3) (ms := [0, 1, 0, 4, 0, 0, 51, 127]) (by kernel_rfl) ?_)
          | (refine RunC.regL (id := 6) (ms := [0, 1, 3, 0, 8, 24, 0, 64, 248, 511, 0, 1024, 3072, 0, 8192, 24576, 0, 65536, 253952, 523264, 197631, 1246207, 4194303, 8388607]) (by kernel_rfl) ?_)
          | (refine RunC.regL (id := 20) (ms := [0, 0, 0, 1, 11, 31]) (by kernel_rfl) ?_)
          | (refine RunC.regD (by kernel_rfl) ?_)
          | (refine RunL.cons ?_)
          | (refine RunL.nil ?_)
          | (refine LateH.by (by (repeat' (conv => whnf); first | exact trivial | exact bitW.skip rfl | exact bitW.use rfl | (refine ⟨?_, ?_⟩))) ?_)
          | (refine RunC.cond ?_)
          | (refine RunC.block ?_)
          | (refine RunC.ret ?_)
          | (refine RunC.exit ?_)
          | (refine RunC.skip ?_)
          | (refine RunC.label ?_)
          | (refine callG.id ?_; first | (refine callG.by (c15) ?_) | (refine callG.by (c17 _ _ _ _ _) ?_) | (refine callG.by (c24 _ _ _ _) ?_) | (refine callG.by (c19 _ _) ?_) | (refine callG.by (c21 _) ?_) | (refine callG.by (c22 _ _ _ _ _ _) ?_) | (refine callG.by (c26 _ _ _ _ _ _) ?_) | (refine callG.by (c27 _ _ _) ?_) | fail)
          | (refine ACallH.id ?_; first | (refine ACallH.by (c15) ?_) | (refine ACallH.by (c17 _ _ _ _ _) ?_) | (refine ACallH.by (c24 _ _ _ _) ?_) | (refine ACallH.by (c19 _ _) ?_) | (refine ACallH.by (c21 _) ?_) | (refine ACallH.by (c22 _ _ _ _ _ _) ?_) | (refine ACallH.by (c26 _ _ _ _ _ _) ?_) | (refine ACallH.by (c27 _ _ _) ?_) | fail)
          | (refine ifH.id ?_; first | (refine ifH_isT (by assumption) ?_) | (refine ifH_isF (by assumption) ?_) | (refine ifH_pos (by assumption) ?_) | (refine ifH_neg (by assumption) ?_) | (refine ifH_isT rfl ?_) | (refine ifH_isF rfl ?_) | (refine ifH_not ?_) | (refine ifH_isT ?_ ?_; focus (simp [h1, hi, h4]; done)) | (refine ifH_isF ?_ ?_; focus (simp [h1, hi, h4]; done)) | fail)
          | (refine someH.id ?_; first | (refine someH_of rfl ?_) | (refine someH_of (by assumption) ?_) | (refine someH_of azero_27 ?_) | (refine someH_of azero_45 ?_) | (refine someH_of azero_23 ?_) | (refine someH_of azero_60 ?_) | (refine someH_of azero_95 ?_) | (refine someH_of azero_63 ?_) | (refine someH_of azero_116 ?_) | (refine someH_of azero_114 ?_) | (refine someH_of azero_137 ?_) | (refine someH_of azero_57 ?_) | (refine someH_of aslc_61 ?_) | (refine someH_of azero_29 ?_) | (refine someH_of aslc_55 ?_) | (refine someH_of aslc_58 ?_) | (refine someH_of aslc_208 ?_) | (refine someH_of azero_160 ?_) | (refine someH_of azero_168 ?_) | (refine someH_of azero_173 ?_) | (refine someH_of azero_175 ?_) | (refine someH_of azero_3 ?_) | (refine someH_of azero_131 ?_) | (refine someH_of azero_25 ?_) | (refine someH_of azero_96 ?_) | (refine someH_of azero_55 ?_) | (refine someH_of azero_81 ?_) | (refine someH_of aslc_81 ?_) | (refine someH_of azero_4 ?_) | (refine someH_of azero_217 ?_) | (refine someH_of azero_129 ?_) | (refine someH_of azero_61 ?_) | (refine someH_of aslc_206 ?_) | (refine someH_of (aggEqw_27 _ _ _ _) ?_) | (refine someH_of (aggEqw_45 _ _ _ _ _ _ _ _) ?_) | (refine someH_of (aggEqw_116 _ _ _ _) ?_) | (refine someH_of (aggEqw_23 _ _ _ _) ?_) | fail)
          | (refine And.intro rfl ?_)
          | (refine And.intro (by assumption) ?_)
          | (refine And.intro (by decide) ?_)
          | fail
        all_goals (exact FinW.of (bool _) rfl (by simp [h1, hi, h4]))

    by_cases h5 : fricE flo fhi k = 0
    case neg =>
        repeat' (conv => whnf); first
          | (refine RunE.cons ?_)
          | (refine RunD.cons ?_)
          | (refine valW.id ?_; first | (refine valW.int ?_) | (refine valW.bool ?_) | (refine valW.unit ?_) | ((first | refine valW.ptr ?_ ?_ ?_ | refine valW.el ?_ ?_ ?_); focus ((try simp only [List.length_cons, List.length_nil, List.take_succ_cons, List.take_zero, List.drop_succ_cons, List.drop_zero, List.cons_append, List.nil_append, List.append_nil, List.map_cons, List.map_nil, List.set_cons_zero, List.set_cons_succ, Nat.reduceAdd, Nat.reduceSub, Nat.reduceMul, splice, AS.setBox, AS.push, AS.pushes, AS.pushOwn, AS.setOwn, AV.cells]); first | done | rfl); focus (first | exact (rfl : _ = 0) | exact (rfl : _ = 1) | exact (rfl : _ = 2) | exact (rfl : _ = 3) | exact (rfl : _ = 4) | exact (rfl : _ = 5) | exact (rfl : _ = 6) | exact (rfl : _ = 7) | exact (rfl : _ = 8) | exact (rfl : _ = 9) | exact (rfl : _ = 10) | exact (rfl : _ = 11) | rfl)) | (refine valW.agg (cs' := [_, _]) rfl ?_) | (refine valW.agg (cs' := [_, _, _, _, _]) rfl ?_) | (refine valW.agg (cs' := [_, _, _, _]) rfl ?_) | (refine valW.agg (cs' := [_]) rfl ?_) | (refine valW.agg (cs' := [_, _, _]) rfl ?_) | (refine valW.agg (cs' := [_, _, _, _, _, _]) rfl ?_) | (refine valW.agg (cs' := [_, _, _, _, _, _, _]) rfl ?_) | (refine valW.agg (cs' := [_, _, _, _, _, _, _, _]) rfl ?_) | (refine valW.agg (cs' := [_, _, _, _, _, _, _, _, _]) rfl ?_) | (refine valW.agg (cs' := [_, _, _, _, _, _, _, _, _, _]) rfl ?_) | (refine valW.agg (cs' := [_, _, _, _, _, _, _, _, _, _, _]) rfl ?_) | (refine valW.agg (cs' := [_, _, _, _, _, _, _, _, _, _, _, _]) rfl ?_) | ((first | refine valW.agg ?_ ?_ | refine valW.sl ?_ ?_ | refine valW.tup ?_ ?_); focus ((try simp only [List.length_cons, List.length_nil, List.take_succ_cons, List.take_zero, List.drop_succ_cons, List.drop_zero, List.cons_append, List.nil_append, List.append_nil, List.map_cons, List.map_nil, List.set_cons_zero, List.set_cons_succ, Nat.reduceAdd, Nat.reduceSub, Nat.reduceMul, splice, AS.setBox, AS.push, AS.pushes, AS.pushOwn, AS.setOwn, AV.cells]); first | done | rfl)) | (refine valW.eq rfl ?_) | fail)
          | (refine stW.id ?_; first | (refine stW.eq (by first | (simp only [List.length_cons, List.length_nil, List.take_succ_cons, List.take_zero, List.drop_succ_cons, List.drop_zero, List.cons_append, List.nil_append, List.append_nil, List.map_cons, List.map_nil, List.set_cons_zero, List.set_cons_succ, Nat.reduceAdd, Nat.reduceSub, Nat.reduceMul, splice, AS.setBox, AS.push, AS.pushes, AS.pushOwn, AS.setOwn, AV.cells]; done) | (simp only [List.length_cons, List.length_nil, List.take_succ_cons, List.take_zero, List.drop_succ_cons, List.drop_zero, List.cons_append, List.nil_append, List.append_nil, List.map_cons, List.map_nil, List.set_cons_zero, List.set_cons_succ, Nat.reduceAdd, Nat.reduceSub, Nat.reduceMul, splice, AS.setBox, AS.push, AS.pushes, AS.pushOwn, AS.setOwn, AV.cells]; rfl) | rfl) ?_) | (refine stW.mk' ?_))
          | (refine RunE.nil ?_)
          | (refine RunD.nil ?_)
          | (refine RunC.seq ?_)
          | (refine RunC.regE ?_)
          | (refine RunC.regL (id := 3) (ms := [0, 1, 0, 4, 0, 0, 51, 127]) (by kernel_rfl) ?_)
          | (refine RunC.regL (id := 6) (ms := [0, 1, 3, 0, 8, 24, 0, 64, 248, 511, 0, 1024, 3072, 0, 8192, 24576, 0, 65536, 253952, 523264, 197631, 1246207, 4194303, 8388607]) (by kernel_rfl) ?_)
          | (refine RunC.regL (id := 20) (ms := [0, 0, 0, 1, 11, 31]) (by kernel_rfl) ?_)
          | (refine RunC.regD (by kernel_rfl) ?_)
          | (refine RunL.cons ?_)
          | (refine RunL.nil ?_)
          | (refine LateH.by (by (repeat' (conv => whnf); first | exact trivial | exact bitW.skip rfl | exact bitW.use rfl | (refine ⟨?_, ?_⟩))) ?_)
          | (refine RunC.cond ?_)
          | (refine RunC.block ?_)
          | (refine RunC.ret ?_)
          | (refine RunC.exit ?_)
          | (refine RunC.skip ?_)
          | (refine RunC.label ?_)
          | (refine callG.id ?_; first | (refine callG.by (c15) ?_) | (refine callG.by (c17 _ _ _ _ _) ?_) | (refine callG.by (c24 _ _ _ _) ?_) | (refine callG.by (c19 _ _) ?_) | (refine callG.by (c21 _) ?_) | (refine callG.by (c22 _ _ _ _ _ _) ?_) | (refine callG.by (c26 _ _ _ _ _ _) ?_) | (refine callG.by (c27 _ _ _) ?_) | fail)
          | (refine ACallH.id ?_; first | (refine ACallH.by (c15) ?_) | (refine ACallH.by (c17 _ _ _ _ _) ?_) | (refine ACallH.by (c24 _ _ _ _) ?_) | (refine ACallH.by (c19 _ _) ?_) | (refine ACallH.by (c21 _) ?_) | (refine ACallH.by (c22 _ _ _ _ _ _) ?_) | (refine ACallH.by (c26 _ _ _ _ _ _) ?_) | (refine ACallH.by (c27 _ _ _) ?_) | fail)
          | (refine ifH.id ?_; first | (refine ifH_isT (by assumption) ?_) | (refine ifH_isF (by assumption) ?_) | (refine ifH_pos (by assumption) ?_) | (refine ifH_neg (by assumption) ?_) | (refine ifH_isT rfl ?_) | (refine ifH_isF rfl ?_) | (refine ifH_not ?_) | (refine ifH_isT ?_ ?_; focus (simp [h1, hi, h4, h5]; done)) | (refine ifH_isF ?_ ?_; focus (simp [h1, hi, h4, h5]; done)) | fail)
          | (refine someH.id ?_; first | (refine someH_of rfl ?_) | (refine someH_of (by assumption) ?_) | (refine someH_of azero_27 ?_) | (refine someH_of azero_45 ?_) | (refine someH_of azero_23 ?_) | (refine someH_of azero_60 ?_) | (refine someH_of azero_95 ?_) | (refine someH_of azero_63 ?_) | (refine someH_of azero_116 ?_) | (refine someH_of azero_114 ?_) | (refine someH_of azero_137 ?_) | (refine someH_of azero_57 ?_) | (refine someH_of aslc_61 ?_) | (refine someH_of azero_29 ?_) | (refine someH_of aslc_55 ?_) | (refine someH_of aslc_58 ?_) | (refine someH_of aslc_208 ?_) | (refine someH_of azero_160 ?_) | (refine someH_of azero_168 ?_) | (refine someH_of azero_173 ?_) | (refine someH_of azero_175 ?_) | (refine someH_of azero_3 ?_) | (refine someH_of azero_131 ?_) | (refine someH_of azero_25 ?_) | (refine someH_of azero_96 ?_) | (refine someH_of azero_55 ?_) | (refine someH_of azero_81 ?_) | (refine someH_of aslc_81 ?_) | (refine someH_of azero_4 ?_) | (refine someH_of azero_217 ?_) | (refine someH_of azero_129 ?_) | (refine someH_of azero_61 ?_) | (refine someH_of aslc_206 ?_) | (refine someH_of (aggEqw_27 _ _ _ _) ?_) | (refine someH_of (aggEqw_45 _ _ _ _ _ _ _ _) ?_) | (refine someH_of (aggEqw_116 _ _ _ _) ?_) | (refine someH_of (aggEqw_23 _ _ _ _) ?_) | fail)
          | (refine And.intro rfl ?_)
          | (refine And.intro (by assumption) ?_)
          | (refine And.intro (by decide) ?_)
          | fail
        all_goals (exact FinW.of (bool _) rfl (by simp [h1, hi, h4, h5]))

    have hu := loadE_zero.1 h4
    have hk := fricE_zero.1 h5
    have eS := steppedE_of (lvl := s0) (flow := s1) h1 (stateE_zero.2 (by omega)) h4 h5
    have eB := boxSE_zero.2 ⟨h1, boxE_zero.2 (show (-100000 ≤ b0 ∧ b0 ≤ b1 ∧ b1 ≤ 100000) ∧ (-1000 ≤ b2 ∧ b2 ≤ b3 ∧ b3 ≤ 1000) by omega), h4⟩
    have eM := boxSE_zero.2 ⟨h1, boxE_zero.2 (show (-100000 ≤ m0 ∧ m0 ≤ m1 ∧ m1 ≤ 100000) ∧ (-1000 ≤ m2 ∧ m2 ≤ m3 ∧ m3 ≤ 1000) by omega), h4⟩
    obtain ⟨⟨f1, f2, f3, f4⟩, ⟨f5, f6, f7, f8⟩, f9, f10⟩ := enc_step V hu hk pb pm ps
    have inc : inBox (min (sV ine area thr l flo b0 b2) (sV ine area thr l fhi b0 b2)) (max (sV ine area thr l flo b1 b3) (sV ine area thr l fhi b1 b3)) (min (sF ine thr l flo b1 b2) (sF ine thr l fhi b1 b2)) (max (sF ine thr l flo b0 b3) (sF ine thr l fhi b0 b3)) (sV ine area thr l k s0 s1) (sF ine thr l k s0 s1) = true := by
      rw [inBox, Bool.and_eq_true, wi_true, wi_true]; omega
    have ind : inBox (min (sV ine area thr l flo m0 m2) (sV ine area thr l fhi m0 m2)) (max (sV ine area thr l flo m1 m3) (sV ine area thr l fhi m1 m3)) (min (sF ine thr l flo m1 m2) (sF ine thr l fhi m1 m2)) (max (sF ine thr l flo m0 m3) (sF ine thr l fhi m0 m3)) (sV ine area thr l k s0 s1) (sF ine thr l k s0 s1) = true := by
      rw [inBox, Bool.and_eq_true, wi_true, wi_true]; omega
    have n1 : ¬ (min (sV ine area thr l flo m0 m2) (sV ine area thr l fhi m0 m2)) < (min (sV ine area thr l flo b0 b2) (sV ine area thr l fhi b0 b2)) := by omega
    have n2 : ¬ (max (sV ine area thr l flo b1 b3) (sV ine area thr l fhi b1 b3)) < (max (sV ine area thr l flo m1 m3) (sV ine area thr l fhi m1 m3)) := by omega
    have n3 : ¬ (min (sF ine thr l flo m1 m2) (sF ine thr l fhi m1 m2)) < (min (sF ine thr l flo b1 b2) (sF ine thr l fhi b1 b2)) := by omega
    have n4 : ¬ (max (sF ine thr l flo b0 b3) (sF ine thr l fhi b0 b3)) < (max (sF ine thr l flo m0 m3) (sF ine thr l fhi m0 m3)) := by omega
    by_cases hc0 : wi (min (sV ine area thr l flo b0 b2) (sV ine area thr l fhi b0 b2)) (-100000) 100000 = true
    case neg =>
      have hc0' : wi (min (sV ine area thr l flo b0 b2) (sV ine area thr l fhi b0 b2)) (-100000) 100000 = false := by simpa using hc0
      have hcE : (boxE (min (sV ine area thr l flo b0 b2) (sV ine area thr l fhi b0 b2)) (max (sV ine area thr l flo b1 b3) (sV ine area thr l fhi b1 b3)) (min (sF ine thr l flo b1 b2) (sF ine thr l fhi b1 b2)) (max (sF ine thr l flo b0 b3) (sF ine thr l fhi b0 b3)) == 0) = false := by
        rw [beq_eq_false_iff_ne]
        intro h
        have := boxE_zero.1 h
        exact hc0 (wi_true.2 (by omega))
      repeat' (conv => whnf); first
        | (refine RunE.cons ?_)
        | (refine RunD.cons ?_)
        | (refine valW.id ?_; first | (refine valW.int ?_) | (refine valW.bool ?_) | (refine valW.unit ?_) | ((first | refine valW.ptr ?_ ?_ ?_ | refine valW.el ?_ ?_ ?_); focus ((try simp only [List.length_cons, List.length_nil, List.take_succ_cons, List.take_zero, List.drop_succ_cons, List.drop_zero, List.cons_append, List.nil_append, List.append_nil, List.map_cons, List.map_nil, List.set_cons_zero, List.set_cons_succ, Nat.reduceAdd, Nat.reduceSub, Nat.reduceMul, splice, AS.setBox, AS.push, AS.pushes, AS.pushOwn, AS.setOwn, AV.cells]); first | done | rfl); focus (first | exact (rfl : _ = 0) | exact (rfl : _ = 1) | exact (rfl : _ = 2) | exact (rfl : _ = 3) | exact (rfl : _ = 4) | exact (rfl : _ = 5) | exact (rfl : _ = 6) | exact (rfl : _ = 7) | exact (rfl : _ = 8) | exact (rfl : _ = 9) | exact (rfl : _ = 10) | exact (rfl : _ = 11) | rfl)) | (refine valW.agg (cs' := [_, _]) rfl ?_) | (refine valW.agg (cs' := [_, _, _, _, _]) rfl ?_) | (refine valW.agg (cs' := [_, _, _, _]) rfl ?_) | (refine valW.agg (cs' := [_]) rfl ?_) | (refine valW.agg (cs' := [_, _, _]) rfl ?_) | (refine valW.agg (cs' := [_, _, _, _, _, _]) rfl ?_) | (refine valW.agg (cs' := [_, _, _, _, _, _, _]) rfl ?_) | (refine valW.agg (cs' := [_, _, _, _, _, _, _, _]) rfl ?_) | (refine valW.agg (cs' := [_, _, _, _, _, _, _, _, _]) rfl ?_) | (refine valW.agg (cs' := [_, _, _, _, _, _, _, _, _, _]) rfl ?_) | (refine valW.agg (cs' := [_, _, _, _, _, _, _, _, _, _, _]) rfl ?_) | (refine valW.agg (cs' := [_, _, _, _, _, _, _, _, _, _, _, _]) rfl ?_) | ((first | refine valW.agg ?_ ?_ | refine valW.sl ?_ ?_ | refine valW.tup ?_ ?_); focus ((try simp only [List.length_cons, List.length_nil, List.take_succ_cons, List.take_zero, List.drop_succ_cons, List.drop_zero, List.cons_append, List.nil_append, List.append_nil, List.map_cons, List.map_nil, List.set_cons_zero, List.set_cons_succ, Nat.reduceAdd, Nat.reduceSub, Nat.reduceMul, splice, AS.setBox, AS.push, AS.pushes, AS.pushOwn, AS.setOwn, AV.cells]); first | done | rfl)) | (refine valW.eq rfl ?_) | fail)
        | (refine stW.id ?_; first | (refine stW.eq (by first | (simp only [List.length_cons, List.length_nil, List.take_succ_cons, List.take_zero, List.drop_succ_cons, List.drop_zero, List.cons_append, List.nil_append, List.append_nil, List.map_cons, List.map_nil, List.set_cons_zero, List.set_cons_succ, Nat.reduceAdd, Nat.reduceSub, Nat.reduceMul, splice, AS.setBox, AS.push, AS.pushes, AS.pushOwn, AS.setOwn, AV.cells]; done) | (simp only [List.length_cons, List.length_nil, List.take_succ_cons, List.take_zero, List.drop_succ_cons, List.drop_zero, List.cons_append, List.nil_append, List.append_nil, List.map_cons, List.map_nil, List.set_cons_zero, List.set_cons_succ, Nat.reduceAdd, Nat.reduceSub, Nat.reduceMul, splice, AS.setBox, AS.push, AS.pushes, AS.pushOwn, AS.setOwn, AV.cells]; rfl) | rfl) ?_) | (refine stW.mk' ?_))
        | (refine RunE.nil ?_)
        | (refine RunD.nil ?_)
        | (refine RunC.seq ?_)
        | (refine RunC.regE ?_)
        | (refine RunC.regL (id := 3) (ms := [0, 1, 0, 4, 0, 0, 51, 127]) (by kernel_rfl) ?_)
        | (refine RunC.regL (id := 6) (ms := [0, 1, 3, 0, 8, 24, 0, 64, 248, 511, 0, 1024, 3072, 0, 8192, 24576, 0, 65536, 253952, 523264, 197631, 1246207, 4194303, 8388607]) (by kernel_rfl) ?_)
        | (refine RunC.regL (id := 20) (ms := [0, 0, 0, 1, 11, 31]) (by kernel_rfl) ?_)
        | (refine RunC.regD (by kernel_rfl) ?_)
        | (refine RunL.cons ?_)
        | (refine RunL.nil ?_)
        | (refine LateH.by (by (repeat' (conv => whnf); first | exact trivial | exact bitW.skip rfl | exact bitW.use rfl | (refine ⟨?_, ?_⟩))) ?_)
        | (refine RunC.cond ?_)
        | (refine RunC.block ?_)
        | (refine RunC.ret ?_)
        | (refine RunC.exit ?_)
        | (refine RunC.skip ?_)
        | (refine RunC.label ?_)
        | (refine callG.id ?_; first | (refine callG.by (c15) ?_) | (refine callG.by (c17 _ _ _ _ _) ?_) | (refine callG.by (c24 _ _ _ _) ?_) | (refine callG.by (c19 _ _) ?_) | (refine callG.by (c21 _) ?_) | (refine callG.by (c22 _ _ _ _ _ _) ?_) | (refine callG.by (c26 _ _ _ _ _ _) ?_) | (refine callG.by (c27 _ _ _) ?_) | (refine callG.by (c16v _ _ _ _ _ _ _ _ _ eS) ?_) | (refine callG.by (c25v _ _ _ _ _ _ _ _ _ _ eB) ?_) | (refine callG.by (c25v _ _ _ _ _ _ _ _ _ _ eM) ?_) | fail)
        | (refine ACallH.id ?_; first | (refine ACallH.by (c15) ?_) | (refine ACallH.by (c17 _ _ _ _ _) ?_) | (refine ACallH.by (c24 _ _ _ _) ?_) | (refine ACallH.by (c19 _ _) ?_) | (refine ACallH.by (c21 _) ?_) | (refine ACallH.by (c22 _ _ _ _ _ _) ?_) | (refine ACallH.by (c26 _ _ _ _ _ _) ?_) | (refine ACallH.by (c27 _ _ _) ?_) | (refine ACallH.by (c16v _ _ _ _ _ _ _ _ _ eS) ?_) | (refine ACallH.by (c25v _ _ _ _ _ _ _ _ _ _ eB) ?_) | (refine ACallH.by (c25v _ _ _ _ _ _ _ _ _ _ eM) ?_) | fail)
        | (refine ifH.id ?_; first | (refine ifH_isT (by assumption) ?_) | (refine ifH_isF (by assumption) ?_) | (refine ifH_pos (by assumption) ?_) | (refine ifH_neg (by assumption) ?_) | (refine ifH_isT rfl ?_) | (refine ifH_isF rfl ?_) | (refine ifH_not ?_) | (refine ifH_isT ?_ ?_; focus (simp [hi, h4, h5, inc, ind, n1, n2, n3, n4, hc0']; done)) | (refine ifH_isF ?_ ?_; focus (simp [hi, h4, h5, inc, ind, n1, n2, n3, n4, hc0']; done)) | (refine ifH_split (fun h => ?_) (fun h => ?_)) | fail)
        | (refine someH.id ?_; first | (refine someH_of rfl ?_) | (refine someH_of (by assumption) ?_) | (refine someH_of azero_27 ?_) | (refine someH_of azero_45 ?_) | (refine someH_of azero_23 ?_) | (refine someH_of azero_60 ?_) | (refine someH_of azero_95 ?_) | (refine someH_of azero_63 ?_) | (refine someH_of azero_116 ?_) | (refine someH_of azero_114 ?_) | (refine someH_of azero_137 ?_) | (refine someH_of azero_57 ?_) | (refine someH_of aslc_61 ?_) | (refine someH_of azero_29 ?_) | (refine someH_of aslc_55 ?_) | (refine someH_of aslc_58 ?_) | (refine someH_of aslc_208 ?_) | (refine someH_of azero_160 ?_) | (refine someH_of azero_168 ?_) | (refine someH_of azero_173 ?_) | (refine someH_of azero_175 ?_) | (refine someH_of azero_3 ?_) | (refine someH_of azero_131 ?_) | (refine someH_of azero_25 ?_) | (refine someH_of azero_96 ?_) | (refine someH_of azero_55 ?_) | (refine someH_of azero_81 ?_) | (refine someH_of aslc_81 ?_) | (refine someH_of azero_4 ?_) | (refine someH_of azero_217 ?_) | (refine someH_of azero_129 ?_) | (refine someH_of azero_61 ?_) | (refine someH_of aslc_206 ?_) | (refine someH_of (aggEqw_27 _ _ _ _) ?_) | (refine someH_of (aggEqw_45 _ _ _ _ _ _ _ _) ?_) | (refine someH_of (aggEqw_116 _ _ _ _) ?_) | (refine someH_of (aggEqw_23 _ _ _ _) ?_) | fail)
        | (refine And.intro rfl ?_)
        | (refine And.intro (by assumption) ?_)
        | (refine And.intro (by decide) ?_)
        | fail
      all_goals (exact FinW.of (bool _) rfl (by simp [hi, h4, h5, inc, ind, n1, n2, n3, n4, hc0']))

    by_cases hc1 : wi (max (sV ine area thr l flo b1 b3) (sV ine area thr l fhi b1 b3)) (-100000) 100000 = true
    case neg =>
      have hc1' : wi (max (sV ine area thr l flo b1 b3) (sV ine area thr l fhi b1 b3)) (-100000) 100000 = false := by simpa using hc1
      have hcE : (boxE (min (sV ine area thr l flo b0 b2) (sV ine area thr l fhi b0 b2)) (max (sV ine area thr l flo b1 b3) (sV ine area thr l fhi b1 b3)) (min (sF ine thr l flo b1 b2) (sF ine thr l fhi b1 b2)) (max (sF ine thr l flo b0 b3) (sF ine thr l fhi b0 b3)) == 0) = false := by
        rw [beq_eq_false_iff_ne]
        intro h
        have := boxE_zero.1 h
        exact hc1 (wi_true.2 (by omega))
      repeat' (conv => whnf); first
        | (refine RunE.cons ?_)
        | (refine RunD.cons ?_)
        | (refine valW.id ?_; first | (refine valW.int ?_) | (refine valW.bool ?_) | (refine valW.unit ?_) | ((first | refine valW.ptr ?_ ?_ ?_ | refine valW.el ?_ ?_ ?_); focus ((try simp only [List.length_cons, List.length_nil, List.take_succ_cons, List.take_zero, List.drop_succ_cons, List.drop_zero, List.cons_append, List.nil_append, List.append_nil, List.map_cons, List.map_nil, List.set_cons_zero, List.set_cons_succ, Nat.reduceAdd, Nat.reduceSub, Nat.reduceMul, splice, AS.setBox, AS.push, AS.pushes, AS.pushOwn, AS.setOwn, AV.cells]); first | done | rfl); focus (first | exact (rfl : _ = 0) | exact (rfl : _ = 1) | exact (rfl : _ = 2) | exact (rfl : _ = 3) | exact (rfl : _ = 4) | exact (rfl : _ = 5) | exact (rfl : _ = 6) | exact (rfl : _ = 7) | exact (rfl : _ = 8) | exact (rfl : _ = 9) | exact (rfl : _ = 10) | exact (rfl : _ = 11) | rfl)) | (refine valW.agg (cs' := [_, _]) rfl ?_) | (refine valW.agg (cs' := [_, _, _, _, _]) rfl ?_) | (refine valW.agg (cs' := [_, _, _, _]) rfl ?_) | (refine valW.agg (cs' := [_]) rfl ?_) | (refine valW.agg (cs' := [_, _, _]) rfl ?_) | (refine valW.agg (cs' := [_, _, _, _, _, _]) rfl ?_) | (refine valW.agg (cs' := [_, _, _, _, _, _, _]) rfl ?_) | (refine valW.agg (cs' := [_, _, _, _, _, _, _, _]) rfl ?_) | (refine valW.agg (cs' := [_, _, _, _, _, _, _, _, _]) rfl ?_) | (refine valW.agg (cs' := [_, _, _, _, _, _, _, _, _, _]) rfl ?_) | (refine valW.agg (cs' := [_, _, _, _, _, _, _, _, _, _, _]) rfl ?_) | (refine valW.agg (cs' := [_, _, _, _, _, _, _, _, _, _, _, _]) rfl ?_) | ((first | refine valW.agg ?_ ?_ | refine valW.sl ?_ ?_ | refine valW.tup ?_ ?_); focus ((try simp only [List.length_cons, List.length_nil, List.take_succ_cons, List.take_zero, List.drop_succ_cons, List.drop_zero, List.cons_append, List.nil_append, List.append_nil, List.map_cons, List.map_nil, List.set_cons_zero, List.set_cons_succ, Nat.reduceAdd, Nat.reduceSub, Nat.reduceMul, splice, AS.setBox, AS.push, AS.pushes, AS.pushOwn, AS.setOwn, AV.cells]); first | done | rfl)) | (refine valW.eq rfl ?_) | fail)
        | (refine stW.id ?_; first | (refine stW.eq (by first | (simp only [List.length_cons, List.length_nil, List.take_succ_cons, List.take_zero, List.drop_succ_cons, List.drop_zero, List.cons_append, List.nil_append, List.append_nil, List.map_cons, List.map_nil, List.set_cons_zero, List.set_cons_succ, Nat.reduceAdd, Nat.reduceSub, Nat.reduceMul, splice, AS.setBox, AS.push, AS.pushes, AS.pushOwn, AS.setOwn, AV.cells]; done) | (simp only [List.length_cons, List.length_nil, List.take_succ_cons, List.take_zero, List.drop_succ_cons, List.drop_zero, List.cons_append, List.nil_append, List.append_nil, List.map_cons, List.map_nil, List.set_cons_zero, List.set_cons_succ, Nat.reduceAdd, Nat.reduceSub, Nat.reduceMul, splice, AS.setBox, AS.push, AS.pushes, AS.pushOwn, AS.setOwn, AV.cells]; rfl) | rfl) ?_) | (refine stW.mk' ?_))
        | (refine RunE.nil ?_)
        | (refine RunD.nil ?_)
        | (refine RunC.seq ?_)
        | (refine RunC.regE ?_)
        | (refine RunC.regL (id := 3) (ms := [0, 1, 0, 4, 0, 0, 51, 127]) (by kernel_rfl) ?_)
        | (refine RunC.regL (id := 6) (ms := [0, 1, 3, 0, 8, 24, 0, 64, 248, 511, 0, 1024, 3072, 0, 8192, 24576, 0, 65536, 253952, 523264, 197631, 1246207, 4194303, 8388607]) (by kernel_rfl) ?_)
        | (refine RunC.regL (id := 20) (ms := [0, 0, 0, 1, 11, 31]) (by kernel_rfl) ?_)
        | (refine RunC.regD (by kernel_rfl) ?_)
        | (refine RunL.cons ?_)
        | (refine RunL.nil ?_)
        | (refine LateH.by (by (repeat' (conv => whnf); first | exact trivial | exact bitW.skip rfl | exact bitW.use rfl | (refine ⟨?_, ?_⟩))) ?_)
        | (refine RunC.cond ?_)
        | (refine RunC.block ?_)
        | (refine RunC.ret ?_)
        | (refine RunC.exit ?_)
        | (refine RunC.skip ?_)
        | (refine RunC.label ?_)
        | (refine callG.id ?_; first | (refine callG.by (c15) ?_) | (refine callG.by (c17 _ _ _ _ _) ?_) | (refine callG.by (c24 _ _ _ _) ?_) | (refine callG.by (c19 _ _) ?_) | (refine callG.by (c21 _) ?_) | (refine callG.by (c22 _ _ _ _ _ _) ?_) | (refine callG.by (c26 _ _ _ _ _ _) ?_) | (refine callG.by (c27 _ _ _) ?_) | (refine callG.by (c16v _ _ _ _ _ _ _ _ _ eS) ?_) | (refine callG.by (c25v _ _ _ _ _ _ _ _ _ _ eB) ?_) | (refine callG.by (c25v _ _ _ _ _ _ _ _ _ _ eM) ?_) | fail)
        | (refine ACallH.id ?_; first | (refine ACallH.by (c15) ?_) | (refine ACallH.by (c17 _ _ _ _ _) ?_) | (refine ACallH.by (c24 _ _ _ _) ?_) | (refine ACallH.by (c19 _ _) ?_) | (refine ACallH.by (c21 _) ?_) | (refine ACallH.by (c22 _ _ _ _ _ _) ?_) | (refine ACallH.by (c26 _ _ _ _ _ _) ?_) | (refine ACallH.by (c27 _ _ _) ?_) | (refine ACallH.by (c16v _ _ _ _ _ _ _ _ _ eS) ?_) | (refine ACallH.by (c25v _ _ _ _ _ _ _ _ _ _ eB) ?_) | (refine ACallH.by (c25v _ _ _ _ _ _ _ _ _ _ eM) ?_) | fail)
        | (refine ifH.id ?_; first | (refine ifH_isT (by assumption) ?_) | (refine ifH_isF (by assumption) ?_) | (refine ifH_pos (by assumption) ?_) | (refine ifH_neg (by assumption) ?_) | (refine ifH_isT rfl ?_) | (refine ifH_isF rfl ?_) | (refine ifH_not ?_) | (refine ifH_isT ?_ ?_; focus (simp [hi, h4, h5, inc, ind, n1, n2, n3, n4, hc0, hc1']; done)) | (refine ifH_isF ?_ ?_; focus (simp [hi, h4, h5, inc, ind, n1, n2, n3, n4, hc0, hc1']; done)) | (refine ifH_split (fun h => ?_) (fun h => ?_)) | fail)
        | (refine someH.id ?_; first | (refine someH_of rfl ?_) | (refine someH_of (by assumption) ?_) | (refine someH_of azero_27 ?_) | (refine someH_of azero_45 ?_) | (refine someH_of azero_23 ?_) | (refine someH_of azero_60 ?_) | (refine someH_of azero_95 ?_) | (refine someH_of azero_63 ?_) | (refine someH_of azero_116 ?_) | (refine someH_of azero_114 ?_) | (refine someH_of azero_137 ?_) | (refine someH_of azero_57 ?_) | (refine someH_of aslc_61 ?_) | (refine someH_of azero_29 ?_) | (refine someH_of aslc_55 ?_) | (refine someH_of aslc_58 ?_) | (refine someH_of aslc_208 ?_) | (refine someH_of azero_160 ?_) | (refine someH_of azero_168 ?_) | (refine someH_of azero_173 ?_) | (refine someH_of azero_175 ?_) | (refine someH_of azero_3 ?_) | (refine someH_of azero_131 ?_) | (refine someH_of azero_25 ?_) | (refine someH_of azero_96 ?_) | (refine someH_of azero_55 ?_) | (refine someH_of azero_81 ?_) | (refine someH_of aslc_81 ?_) | (refine someH_of azero_4 ?_) | (refine someH_of azero_217 ?_) | (refine someH_of azero_129 ?_) | (refine someH_of azero_61 ?_) | (refine someH_of aslc_206 ?_) | (refine someH_of (aggEqw_27 _ _ _ _) ?_) | (refine someH_of (aggEqw_45 _ _ _ _ _ _ _ _) ?_) | (refine someH_of (aggEqw_116 _ _ _ _) ?_) | (refine someH_of (aggEqw_23 _ _ _ _) ?_) | fail)
        | (refine And.intro rfl ?_)
        | (refine And.intro (by assumption) ?_)
        | (refine And.intro (by decide) ?_)
        | fail
      all_goals (exact FinW.of (bool _) rfl (by simp [hi, h4, h5, inc, ind, n1, n2, n3, n4, hc0, hc1']))

    have w0 := wi_true.1 hc0
    have w1 := wi_true.1 hc1
    have g1 : stateE (sV ine area thr l k s0 s1) (sF ine thr l k s0 s1) = 0 := stateE_zero.2 (by omega)
    have g2 : boxE (min (sV ine area thr l flo b0 b2) (sV ine area thr l fhi b0 b2)) (max (sV ine area thr l flo b1 b3) (sV ine area thr l fhi b1 b3)) (min (sF ine thr l flo b1 b2) (sF ine thr l fhi b1 b2)) (max (sF ine thr l flo b0 b3) (sF ine thr l fhi b0 b3)) = 0 := boxE_zero.2 (by omega)
    have g3 : boxE (min (sV ine area thr l flo m0 m2) (sV ine area thr l fhi m0 m2)) (max (sV ine area thr l flo m1 m3) (sV ine area thr l fhi m1 m3)) (min (sF ine thr l flo m1 m2) (sF ine thr l fhi m1 m2)) (max (sF ine thr l flo m0 m3) (sF ine thr l fhi m0 m3)) = 0 := boxE_zero.2 (by omega)
    have hp' : EncP ls ⟨i + 1, min (sV ine area thr l flo b0 b2) (sV ine area thr l fhi b0 b2), max (sV ine area thr l flo b1 b3) (sV ine area thr l fhi b1 b3), min (sF ine thr l flo b1 b2) (sF ine thr l fhi b1 b2), max (sF ine thr l flo b0 b3) (sF ine thr l fhi b0 b3), sV ine area thr l k s0 s1, sF ine thr l k s0 s1, min (sV ine area thr l flo m0 m2) (sV ine area thr l fhi m0 m2), max (sV ine area thr l flo m1 m3) (sV ine area thr l fhi m1 m3), min (sF ine thr l flo m1 m2) (sF ine thr l fhi m1 m2), max (sF ine thr l flo m0 m3) (sF ine thr l fhi m0 m3)⟩ := ⟨hil, by simp only; omega, by simp only; omega, by simp only; omega⟩
    have hμ : ls.length - (i + 1) < ls.length - i := by omega
    repeat' (conv => whnf); first
      | (refine RunE.cons ?_)
      | (refine RunD.cons ?_)
      | (refine valW.id ?_; first | (refine valW.int ?_) | (refine valW.bool ?_) | (refine valW.unit ?_) | ((first | refine valW.ptr ?_ ?_ ?_ | refine valW.el ?_ ?_ ?_); focus ((try simp only [List.length_cons, List.length_nil, List.take_succ_cons, List.take_zero, List.drop_succ_cons, List.drop_zero, List.cons_append, List.nil_append, List.append_nil, List.map_cons, List.map_nil, List.set_cons_zero, List.set_cons_succ, Nat.reduceAdd, Nat.reduceSub, Nat.reduceMul, splice, AS.setBox, AS.push, AS.pushes, AS.pushOwn, AS.setOwn, AV.cells]); first | done | rfl); focus (first | exact (rfl : _ = 0) | exact (rfl : _ = 1) | exact (rfl : _ = 2) | exact (rfl : _ = 3) | exact (rfl : _ = 4) | exact (rfl : _ = 5) | exact (rfl : _ = 6) | exact (rfl : _ = 7) | exact (rfl : _ = 8) | exact (rfl : _ = 9) | exact (rfl : _ = 10) | exact (rfl : _ = 11) | rfl)) | (refine valW.agg (cs' := [_, _]) rfl ?_) | (refine valW.agg (cs' := [_, _, _, _, _]) rfl ?_) | (refine valW.agg (cs' := [_, _, _, _]) rfl ?_) | (refine valW.agg (cs' := [_]) rfl ?_) | (refine valW.agg (cs' := [_, _, _]) rfl ?_) | (refine valW.agg (cs' := [_, _, _, _, _, _]) rfl ?_) | (refine valW.agg (cs' := [_, _, _, _, _, _, _]) rfl ?_) | (refine valW.agg (cs' := [_, _, _, _, _, _, _, _]) rfl ?_) | (refine valW.agg (cs' := [_, _, _, _, _, _, _, _, _]) rfl ?_) | (refine valW.agg (cs' := [_, _, _, _, _, _, _, _, _, _]) rfl ?_) | (refine valW.agg (cs' := [_, _, _, _, _, _, _, _, _, _, _]) rfl ?_) | (refine valW.agg (cs' := [_, _, _, _, _, _, _, _, _, _, _, _]) rfl ?_) | ((first | refine valW.agg ?_ ?_ | refine valW.sl ?_ ?_ | refine valW.tup ?_ ?_); focus ((try simp only [List.length_cons, List.length_nil, List.take_succ_cons, List.take_zero, List.drop_succ_cons, List.drop_zero, List.cons_append, List.nil_append, List.append_nil, List.map_cons, List.map_nil, List.set_cons_zero, List.set_cons_succ, Nat.reduceAdd, Nat.reduceSub, Nat.reduceMul, splice, AS.setBox, AS.push, AS.pushes, AS.pushOwn, AS.setOwn, AV.cells]); first | done | rfl)) | (refine valW.eq rfl ?_) | fail)
      | (refine stW.id ?_; first | (refine stW.eq (by first | (simp only [List.length_cons, List.length_nil, List.take_succ_cons, List.take_zero, List.drop_succ_cons, List.drop_zero, List.cons_append, List.nil_append, List.append_nil, List.map_cons, List.map_nil, List.set_cons_zero, List.set_cons_succ, Nat.reduceAdd, Nat.reduceSub, Nat.reduceMul, splice, AS.setBox, AS.push, AS.pushes, AS.pushOwn, AS.setOwn, AV.cells]; done) | (simp only [List.length_cons, List.length_nil, List.take_succ_cons, List.take_zero, List.drop_succ_cons, List.drop_zero, List.cons_append, List.nil_append, List.append_nil, List.map_cons, List.map_nil, List.set_cons_zero, List.set_cons_succ, Nat.reduceAdd, Nat.reduceSub, Nat.reduceMul, splice, AS.setBox, AS.push, AS.pushes, AS.pushOwn, AS.setOwn, AV.cells]; rfl) | rfl) ?_) | (refine stW.mk' ?_))
      | (refine RunE.nil ?_)
      | (refine RunD.nil ?_)
      | (refine RunC.seq ?_)
      | (refine RunC.regE ?_)
      | (refine RunC.regL (id := 3) (ms := [0, 1, 0, 4, 0, 0, 51, 127]) (by kernel_rfl) ?_)
      | (refine RunC.regL (id := 6) (ms := [0, 1, 3, 0, 8, 24, 0, 64, 248, 511, 0, 1024, 3072, 0, 8192, 24576, 0, 65536, 253952, 523264, 197631, 1246207, 4194303, 8388607]) (by kernel_rfl) ?_)
      | (refine RunC.regL (id := 20) (ms := [0, 0, 0, 1, 11, 31]) (by kernel_rfl) ?_)
      | (refine RunC.regD (by kernel_rfl) ?_)
      | (refine RunL.cons ?_)
      | (refine RunL.nil ?_)
      | (refine LateH.by (by (repeat' (conv => whnf); first | exact trivial | exact bitW.skip rfl | exact bitW.use rfl | (refine ⟨?_, ?_⟩))) ?_)
      | (refine RunC.cond ?_)
      | (refine RunC.block ?_)
      | (refine RunC.ret ?_)
      | (refine RunC.exit ?_)
      | (refine RunC.skip ?_)
      | (refine RunC.label ?_)
      | (refine callG.id ?_; first | (refine callG.by (c15) ?_) | (refine callG.by (c17 _ _ _ _ _) ?_) | (refine callG.by (c24 _ _ _ _) ?_) | (refine callG.by (c19 _ _) ?_) | (refine callG.by (c21 _) ?_) | (refine callG.by (c22 _ _ _ _ _ _) ?_) | (refine callG.by (c26 _ _ _ _ _ _) ?_) | (refine callG.by (c27 _ _ _) ?_) | (refine callG.by (c16v _ _ _ _ _ _ _ _ _ eS) ?_) | (refine callG.by (c25v _ _ _ _ _ _ _ _ _ _ eB) ?_) | (refine callG.by (c25v _ _ _ _ _ _ _ _ _ _ eM) ?_) | fail)
      | (refine ACallH.id ?_; first | (refine ACallH.by (c15) ?_) | (refine ACallH.by (c17 _ _ _ _ _) ?_) | (refine ACallH.by (c24 _ _ _ _) ?_) | (refine ACallH.by (c19 _ _) ?_) | (refine ACallH.by (c21 _) ?_) | (refine ACallH.by (c22 _ _ _ _ _ _) ?_) | (refine ACallH.by (c26 _ _ _ _ _ _) ?_) | (refine ACallH.by (c27 _ _ _) ?_) | (refine ACallH.by (c16v _ _ _ _ _ _ _ _ _ eS) ?_) | (refine ACallH.by (c25v _ _ _ _ _ _ _ _ _ _ eB) ?_) | (refine ACallH.by (c25v _ _ _ _ _ _ _ _ _ _ eM) ?_) | fail)
      | (refine ifH.id ?_; first | (refine ifH_isT (by assumption) ?_) | (refine ifH_isF (by assumption) ?_) | (refine ifH_pos (by assumption) ?_) | (refine ifH_neg (by assumption) ?_) | (refine ifH_isT rfl ?_) | (refine ifH_isF rfl ?_) | (refine ifH_not ?_) | (refine ifH_isT ?_ ?_; focus (simp [hi, h4, h5, inc, ind, n1, n2, n3, n4, g1, g2, g3]; done)) | (refine ifH_isF ?_ ?_; focus (simp [hi, h4, h5, inc, ind, n1, n2, n3, n4, g1, g2, g3]; done)) | fail)
      | (refine someH.id ?_; first | (refine someH_of rfl ?_) | (refine someH_of (by assumption) ?_) | (refine someH_of azero_27 ?_) | (refine someH_of azero_45 ?_) | (refine someH_of azero_23 ?_) | (refine someH_of azero_60 ?_) | (refine someH_of azero_95 ?_) | (refine someH_of azero_63 ?_) | (refine someH_of azero_116 ?_) | (refine someH_of azero_114 ?_) | (refine someH_of azero_137 ?_) | (refine someH_of azero_57 ?_) | (refine someH_of aslc_61 ?_) | (refine someH_of azero_29 ?_) | (refine someH_of aslc_55 ?_) | (refine someH_of aslc_58 ?_) | (refine someH_of aslc_208 ?_) | (refine someH_of azero_160 ?_) | (refine someH_of azero_168 ?_) | (refine someH_of azero_173 ?_) | (refine someH_of azero_175 ?_) | (refine someH_of azero_3 ?_) | (refine someH_of azero_131 ?_) | (refine someH_of azero_25 ?_) | (refine someH_of azero_96 ?_) | (refine someH_of azero_55 ?_) | (refine someH_of azero_81 ?_) | (refine someH_of aslc_81 ?_) | (refine someH_of azero_4 ?_) | (refine someH_of azero_217 ?_) | (refine someH_of azero_129 ?_) | (refine someH_of azero_61 ?_) | (refine someH_of aslc_206 ?_) | (refine someH_of (aggEqw_27 _ _ _ _) ?_) | (refine someH_of (aggEqw_45 _ _ _ _ _ _ _ _) ?_) | (refine someH_of (aggEqw_116 _ _ _ _) ?_) | (refine someH_of (aggEqw_23 _ _ _ _) ?_) | fail)
      | (refine And.intro rfl ?_)
      | (refine And.intro (by assumption) ?_)
      | (refine And.intro (by decide) ?_)
      | fail
    all_goals (exact ⟨⟨_, ⟨[_, _, _], [], []⟩, ⟨hp', hμ⟩, rfl, rfl, rfl, rfl, rfl, rfl, int_eq hw, trivial⟩⟩)
end Go.Proofs.Ytfjeopaaplnoaaa
