/-
  WHAT THE FUNCTIONS RETURN (2): steps of states and boxes, and their plain laws.
-/
import Derived.Test.YtfjeopaaplnoaaaG1
namespace Go.Proofs.Ytfjeopaaplnoaaa
open Go Go.RowKit Av
set_option maxRecDepth 100000
set_option maxHeartbeats 4000000
set_option linter.unusedSimpArgs false
set_option linter.unusedVariables false

theorem wi_true {n lo hi : Int} : wi n lo hi = true ↔ lo ≤ n ∧ n ≤ hi := by simp [wi]
theorem un_zero {b : Bool} {e : Int} (he : e ≠ 0) : un b e = 0 ↔ b = true := by cases b <;> simp [un, he]
theorem firstL_zero : ∀ {l : List Int}, firstL l = 0 ↔ ∀ e ∈ l, e = 0
  | [] => by simp [firstL]
  | e :: l => by
    unfold firstL
    split
    · rename_i h; rw [firstL_zero]; simp [h]
    · rename_i h; simp [h]
theorem rulesE_zero {ine area flo fhi thr : Int} (h : rulesE ine area flo fhi thr = 0) : (1 ≤ ine ∧ ine ≤ 1000) ∧ (1 ≤ area ∧ area ≤ 1000) ∧ (0 ≤ flo ∧ flo ≤ 100) ∧ (0 ≤ fhi ∧ fhi ≤ 100) ∧ (0 ≤ thr ∧ thr ≤ 100) ∧ flo ≤ fhi ∧ 2001 * fhi + 4001 * thr + 2000 ≤ 1000 * ine := by
  unfold rulesE at h
  split at h
  · rename_i hw
    simp only [Bool.and_eq_true, wi_true] at hw
    obtain ⟨h1, h2, h3, h4, h5⟩ := hw
    rw [firstL_zero] at h
    have ha := h _ (List.mem_cons_self ..)
    have hb := h _ (List.mem_cons_of_mem _ (List.mem_cons_self ..))
    rw [un_zero (by decide)] at ha hb
    simp only [decide_eq_true_eq] at ha hb
    rw [w64 (x := 2001 * fhi) (by omega) (by omega), w64 (x := 4001 * thr) (by omega) (by omega), w64 (x := 2001 * fhi + 4001 * thr) (by omega) (by omega), w64 (x := 2001 * fhi + 4001 * thr + 2000) (by omega) (by omega), w64 (x := 1000 * ine) (by omega) (by omega)] at hb
    exact ⟨h1, h2, h3, h4, h5, ha, hb⟩
  · cases h
def steppedE (ine area flo fhi thr lvl flow load fr : Int) : Int := firstL [firstL [rulesE ine area flo fhi thr, stateE lvl flow], loadE load, fricE flo fhi fr]
theorem steppedE_zero {ine area flo fhi thr lvl flow load fr : Int} (h : steppedE ine area flo fhi thr lvl flow load fr = 0) : rulesE ine area flo fhi thr = 0 ∧ stateE lvl flow = 0 ∧ loadE load = 0 ∧ fricE flo fhi fr = 0 := by
  have := (by simpa [steppedE, firstL_zero] using h : (rulesE ine area flo fhi thr = 0 ∧ stateE lvl flow = 0) ∧ loadE load = 0 ∧ fricE flo fhi fr = 0)
  exact ⟨this.1.1, this.1.2, this.2⟩
theorem beq_true' {a : Int} (h : (a == 0) = true) : a = 0 := by simpa using h
theorem ine_of {ine area flo fhi thr lvl flow load fr : Int} (h : (steppedE ine area flo fhi thr lvl flow load fr == 0) = true) : ine ≠ 0 := by
  have := (rulesE_zero (steppedE_zero (beq_true' h)).1).1; omega
theorem area_of {ine area flo fhi thr lvl flow load fr : Int} (h : (steppedE ine area flo fhi thr lvl flow load fr == 0) = true) : area ≠ 0 := by
  have := (rulesE_zero (steppedE_zero (beq_true' h)).1).2.1; omega
theorem c16 (ine area flo fhi thr : Int) (lvl flow load fr : Int) : DCall Try.prog 16 [.agg [int ine, int area, int flo, int fhi, int thr], .agg [int lvl, int flow], .agg [int load, int fr]] (.tup [.agg [int (if steppedE ine area flo fhi thr lvl flow load fr = 0 then stepV area lvl (stepF ine thr lvl flow load fr) load else 0), int (if steppedE ine area flo fhi thr lvl flow load fr = 0 then stepF ine thr lvl flow load fr else 0)], int (steppedE ine area flo fhi thr lvl flow load fr)]) := by
  have hs : firstL [firstL [rulesE ine area flo fhi thr, stateE lvl flow], loadE load, fricE flo fhi fr] = steppedE ine area flo fhi thr lvl flow load fr := rfl
  by_cases h : steppedE ine area flo fhi thr lvl flow load fr = 0
  · have hi : ine ≠ 0 := ine_of (by simpa using h)
    have ha : area ≠ 0 := area_of (by simpa using h)
    rw [if_pos h, if_pos h, h]
    refine DCall.walk hm (T := []) (m := 3000) trivial k16 (by first | rfl | simp [closedL, closedB, closedL_ints, *]) (by first | rfl | simp [closedL, closedB, closedL_ints, *]) rfl (tr := .v (int (firstL [rulesE ine area flo fhi thr, stateE lvl flow])) <| .v (int (loadE load)) <| .v (int (fricE flo fhi fr)) <| .v (int (firstL [firstL [rulesE ine area flo fhi thr, stateE lvl flow], loadE load, fricE flo fhi fr])) <| .f <| .v (AV.agg [int (stepV area lvl (stepF ine thr lvl flow load fr) load), int (stepF ine thr lvl flow load fr)]) <| .n) (Pf := (DCall Try.prog 20 [AV.agg [int ine, int area, int flo, int fhi, int thr], AV.agg [int lvl, int flow]] (int (firstL [rulesE ine area flo fhi thr, stateE lvl flow]))) ∧ (DCall Try.prog 88 [int load] (int (loadE load))) ∧ (DCall Try.prog 89 [AV.agg [int ine, int area, int flo, int fhi, int thr], int fr] (int (fricE flo fhi fr))) ∧ (DCall Try.prog 87 [AV.sl SK.ex 1 (List.map int [firstL [rulesE ine area flo fhi thr, stateE lvl flow], loadE load, fricE flo fhi fr])] (int (firstL [firstL [rulesE ine area flo fhi thr, stateE lvl flow], loadE load, fricE flo fhi fr]))) ∧ ((firstL [firstL [rulesE ine area flo fhi thr, stateE lvl flow], loadE load, fricE flo fhi fr] != 0) = false) ∧ (DCall Try.prog 90 [AV.agg [int ine, int area, int flo, int fhi, int thr], AV.agg [int lvl, int flow], int load, int fr] (AV.agg [int (stepV area lvl (stepF ine thr lvl flow load fr) load), int (stepF ine thr lvl flow load fr)])) ∧ (FinV (AV.tup [AV.agg [int (stepV area lvl (stepF ine thr lvl flow load fr) load), int (stepF ine thr lvl flow load fr)], int 0]) (AV.tup [AV.agg [int (stepV area lvl (stepF ine thr lvl flow load fr) load), int (stepF ine thr lvl flow load fr)], int 0]))) (by kernel_rfl) ⟨(c20 _ _ _ _ _ _ _), (c88 _), (c89 _ _ _ _ _ _), (c87 [_, _, _] (by simp)), (by simp [hs, h]), (c90 _ _ _ _ _ _ _ _ _ hi ha), (FinV.mk (VLe.of_eq (by rfl)))⟩
  · rw [if_neg h, if_neg h]
    refine DCall.walk hm (T := []) (m := 3000) trivial k16 (by first | rfl | simp [closedL, closedB, closedL_ints, *]) (by first | rfl | simp [closedL, closedB, closedL_ints, *]) rfl (tr := .v (int (firstL [rulesE ine area flo fhi thr, stateE lvl flow])) <| .v (int (loadE load)) <| .v (int (fricE flo fhi fr)) <| .v (int (firstL [firstL [rulesE ine area flo fhi thr, stateE lvl flow], loadE load, fricE flo fhi fr])) <| .t <| .n) (Pf := (DCall Try.prog 20 [AV.agg [int ine, int area, int flo, int fhi, int thr], AV.agg [int lvl, int flow]] (int (firstL [rulesE ine area flo fhi thr, stateE lvl flow]))) ∧ (DCall Try.prog 88 [int load] (int (loadE load))) ∧ (DCall Try.prog 89 [AV.agg [int ine, int area, int flo, int fhi, int thr], int fr] (int (fricE flo fhi fr))) ∧ (DCall Try.prog 87 [AV.sl SK.ex 1 (List.map int [firstL [rulesE ine area flo fhi thr, stateE lvl flow], loadE load, fricE flo fhi fr])] (int (firstL [firstL [rulesE ine area flo fhi thr, stateE lvl flow], loadE load, fricE flo fhi fr]))) ∧ ((firstL [firstL [rulesE ine area flo fhi thr, stateE lvl flow], loadE load, fricE flo fhi fr] != 0) = true) ∧ (FinV (AV.tup [AV.agg [int 0, int 0], int (firstL [firstL [rulesE ine area flo fhi thr, stateE lvl flow], loadE load, fricE flo fhi fr])]) (AV.tup [AV.agg [int 0, int 0], int (steppedE ine area flo fhi thr lvl flow load fr)]))) (by kernel_rfl) ⟨(c20 _ _ _ _ _ _ _), (c88 _), (c89 _ _ _ _ _ _), (c87 [_, _, _] (by simp)), (by simp [hs, h]), (FinV.mk (VLe.of_eq (by rfl)))⟩
theorem mul_bound {a b A B : Int} (ha : -A ≤ a ∧ a ≤ A) (hb : -B ≤ b ∧ b ≤ B) : -(A * B) ≤ a * b ∧ a * b ≤ A * B := by
  have h1 : (a * b).natAbs ≤ (A * B).natAbs := by
    rw [Int.natAbs_mul, Int.natAbs_mul]
    exact Nat.mul_le_mul (by omega) (by omega)
  have h2 : 0 ≤ A * B := Int.mul_nonneg (by omega) (by omega)
  omega
theorem stateE_zero {lvl flow : Int} : stateE lvl flow = 0 ↔ (-100000 ≤ lvl ∧ lvl ≤ 100000) ∧ (-1000 ≤ flow ∧ flow ≤ 1000) := by
  rw [stateE, un_zero (by decide), Bool.and_eq_true, wi_true, wi_true]
theorem loadE_zero {n : Int} : loadE n = 0 ↔ 0 ≤ n ∧ n ≤ 1000 := by rw [loadE, un_zero (by decide), wi_true]
theorem fricE_zero {flo fhi k : Int} : fricE flo fhi k = 0 ↔ flo ≤ k ∧ k ≤ fhi := by rw [fricE, un_zero (by decide), wi_true]
theorem size_eq {n : Int} (h : -1000000 ≤ n ∧ n ≤ 1000000) : max n (IntKind.i64.wrap (0 - n)) = max n (-n) := by rw [w64 (by omega) (by omega)]; omega
theorem sq_eq {n : Int} (h : -2000 ≤ n ∧ n ≤ 2000) : sq n = n * max n (-n) ∧ -(2000 * 2000) ≤ n * max n (-n) ∧ n * max n (-n) ≤ 2000 * 2000 := by
  have hb := mul_bound h (b := max n (-n)) (B := 2000) (by omega)
  refine ⟨?_, hb⟩
  rw [sq, size_eq (by omega), w64 (by omega) (by omega)]
theorem loss_eq {c n : Int} (hc : 0 ≤ c ∧ c ≤ 100) (hn : -2000 ≤ n ∧ n ≤ 2000) : lossR c n = IntKind.i64.wrap ((IntKind.i64.wrap (c * sq n)).tdiv 1000) := by
  obtain ⟨e, hb⟩ := sq_eq hn
  have h1 := mul_bound (a := c) (A := 100) (by omega) hn
  have h2 := mul_bound (a := c) (A := 100) (by omega) hb
  have h3 : c * n * max n (-n) = c * (n * max n (-n)) := Int.mul_assoc ..
  rw [lossR, size_eq (by omega), e, w64 (x := c * n) (by omega) (by omega), h3]
theorem step_eq {ine area flo fhi thr lvl flow load fr : Int} (h1 : rulesE ine area flo fhi thr = 0) (h2 : stateE lvl flow = 0) (h3 : loadE load = 0) (h4 : fricE flo fhi fr = 0) :
    stepRF ine thr lvl flow load fr = stepF ine thr lvl flow load fr ∧ stepRV area lvl (stepF ine thr lvl flow load fr) load = stepV area lvl (stepF ine thr lvl flow load fr) load := by
  obtain ⟨_, _, ho, hh, ht, _, _⟩ := rulesE_zero h1
  rw [stateE_zero] at h2
  rw [loadE_zero] at h3
  rw [fricE_zero] at h4
  refine ⟨?_, rfl⟩
  have hw : IntKind.i64.wrap (flow - load) = flow - load := w64 (by omega) (by omega)
  rw [stepRF, stepF, hw, loss_eq (by omega) (by omega), loss_eq (by omega) (by omega)]
  omega

/-- A rounded-down quotient. -/
theorem flr_eq {n b : Int} (hb : 0 < b) (hn : -9000000000 ≤ n ∧ n ≤ 9000000000) : flr n b = n / b := by
  have h1 := Int.mul_tdiv_add_tmod n b
  have h2 := Int.mul_ediv_add_emod n b
  have h3 := Int.emod_nonneg n (by omega : b ≠ 0)
  have h4 := Int.emod_lt_of_pos n hb
  have hle : -9000000000 ≤ n.tdiv b ∧ n.tdiv b ≤ 9000000000 := by
    have := Int.natAbs_tdiv_le_natAbs n b
    omega
  unfold flr
  rw [w64 (x := n.tdiv b) (by omega) (by omega)]
  rw [Int.tdiv_eq_ediv] at h1 hle ⊢
  split
  · rename_i hm
    rw [w64 (by omega) (by omega)]
    split at h1
    · rename_i hd
      rw [if_pos hd]
      exfalso
      have : n.tmod b = n - b * (n / b + 0) := by omega
      have : b * (n / b + 0) = b * (n / b) := by rw [Int.add_zero]
      omega
    · rename_i hd
      rw [if_neg hd, Int.sign_eq_one_of_pos hb]
      omega
  · rename_i hm
    split at h1
    · rename_i hd
      rw [if_pos hd]; omega
    · rename_i hd
      exfalso
      rw [Int.sign_eq_one_of_pos hb] at h1
      have e : b * (n / b + 1) = b * (n / b) + b := by rw [Int.mul_add, Int.mul_one]
      have hnd : n % b ≠ 0 := fun h => hd (.inr (Int.dvd_of_emod_eq_zero h))
      omega

theorem ediv_bounds {n b M : Int} (hb : 1 ≤ b) (h1 : -M ≤ n) (h2 : n ≤ M) (hM : 0 ≤ M) : -M ≤ n / b ∧ n / b ≤ M := by
  constructor
  · rw [Int.le_ediv_iff_mul_le (by omega)]
    have := Int.mul_le_mul_of_nonneg_left hb hM
    have e : -M * b = -(M * b) := Int.neg_mul ..
    omega
  · exact Int.le_trans (Int.ediv_le_ediv (by omega) h2) (Int.ediv_le_self _ hM)

def lossI (c n : Int) : Int := (c * (n * max n (-n))).tdiv 1000
def headI (thr lvl flow load fr : Int) : Int := lvl + lossI fr flow + lossI thr (flow - load)
def flowI (ine thr lvl flow load fr : Int) : Int := min 1000 (max (-1000) (flow - headI thr lvl flow load fr / ine))
def lvlI (area lvl fl load : Int) : Int := lvl + (fl - load) / area

theorem loss_bound {c n : Int} (hc : 0 ≤ c ∧ c ≤ 100) (hn : -2000 ≤ n ∧ n ≤ 2000) : -(100 * (2000 * 2000)) ≤ lossI c n ∧ lossI c n ≤ 100 * (2000 * 2000) := by
  obtain ⟨e, hb⟩ := sq_eq hn
  have h2 := mul_bound (a := c) (A := 100) (by omega) hb
  unfold lossI
  have := Int.natAbs_tdiv_le_natAbs (c * (n * max n (-n))) 1000
  omega

theorem stepF_eq {ine thr lvl flow load fr : Int} (hi : 1 ≤ ine ∧ ine ≤ 1000) (ht : 0 ≤ thr ∧ thr ≤ 100) (hl : -1000000000 ≤ lvl ∧ lvl ≤ 1000000000) (hq : -1000 ≤ flow ∧ flow ≤ 1000) (hu : 0 ≤ load ∧ load ≤ 1000) (hf : 0 ≤ fr ∧ fr ≤ 100) :
    stepF ine thr lvl flow load fr = flowI ine thr lvl flow load fr := by
  obtain ⟨e1, b1⟩ := sq_eq (n := flow) (by omega)
  obtain ⟨e2, b2⟩ := sq_eq (n := flow - load) (by omega)
  have m1 := mul_bound (a := fr) (A := 100) (by omega) b1
  have m2 := mul_bound (a := thr) (A := 100) (by omega) b2
  have l1 := loss_bound (c := fr) (n := flow) hf (by omega)
  have l2 := loss_bound (c := thr) (n := flow - load) ht (by omega)
  have d1 : fr * sq flow = fr * (flow * max flow (-flow)) := by rw [e1]
  have d2 : thr * sq (flow - load) = thr * ((flow - load) * max (flow - load) (-(flow - load))) := by rw [e2]
  have hh : -9000000000 ≤ headI thr lvl flow load fr ∧ headI thr lvl flow load fr ≤ 9000000000 := by unfold headI; omega
  have hdiv := ediv_bounds (b := ine) (by omega) hh.1 hh.2 (by omega)
  unfold stepF flowI
  rw [w64 (x := flow - load) (by omega) (by omega), d1, d2, w64 (x := fr * _) (by omega) (by omega), w64 (x := thr * _) (by omega) (by omega)]
  rw [show (fr * (flow * max flow (-flow))).tdiv 1000 = lossI fr flow from rfl, show (thr * ((flow - load) * max (flow - load) (-(flow - load)))).tdiv 1000 = lossI thr (flow - load) from rfl]
  rw [w64 (x := lossI fr flow) (by omega) (by omega), w64 (x := lossI thr (flow - load)) (by omega) (by omega), w64 (x := lvl + lossI fr flow) (by omega) (by omega), w64 (x := lvl + lossI fr flow + _) (by omega) (by omega)]
  rw [show lvl + lossI fr flow + lossI thr (flow - load) = headI thr lvl flow load fr from rfl, flr_eq (by omega) (by unfold headI; omega), w64 (by omega) (by omega)]

theorem stepV_eq {area lvl fl load : Int} (ha : 1 ≤ area) (hl : -1000000000 ≤ lvl ∧ lvl ≤ 1000000000) (hq : -1000 ≤ fl ∧ fl ≤ 1000) (hu : 0 ≤ load ∧ load ≤ 1000) : stepV area lvl fl load = lvlI area lvl fl load := by
  have hb := ediv_bounds (n := fl - load) (b := area) (M := 2000) ha (by omega) (by omega) (by omega)
  unfold stepV lvlI
  rw [w64 (x := fl - load) (by omega) (by omega), flr_eq (by omega) (by omega), w64 (by omega) (by omega)]

theorem sz_succ (n : Int) : (n + 1) * max (n + 1) (-(n + 1)) - n * max n (-n) = max (2 * n + 1) (-(2 * n + 1)) := by
  by_cases h : 0 ≤ n
  · rw [show max n (-n) = n by omega, show max (n + 1) (-(n + 1)) = n + 1 by omega, Int.add_mul, Int.mul_add]; omega
  · by_cases h1 : n = -1
    · subst h1; decide
    · rw [show max n (-n) = -n by omega, show max (n + 1) (-(n + 1)) = -(n + 1) by omega, Int.mul_neg, Int.mul_neg, Int.add_mul, Int.mul_add]; omega
theorem tdiv_mono {x y : Int} (h : x ≤ y) : x.tdiv 1000 ≤ y.tdiv 1000 ∧ 1000 * (y.tdiv 1000 - x.tdiv 1000) ≤ y - x + 999 := by
  rw [Int.tdiv_eq_ediv, Int.tdiv_eq_ediv, show Int.sign 1000 = 1 from rfl]
  split <;> split <;> omega
theorem loss_succ {c n M : Int} (hc : 0 ≤ c) (h1 : -M ≤ n) (h2 : n + 1 ≤ M) : lossI c n ≤ lossI c (n + 1) ∧ 1000 * (lossI c (n + 1) - lossI c n) ≤ c * (2 * M - 1) + 999 := by
  have e := sz_succ n
  have hm : c * ((n + 1) * max (n + 1) (-(n + 1))) - c * (n * max n (-n)) = c * max (2 * n + 1) (-(2 * n + 1)) := by rw [← Int.mul_sub, e]
  have hb := Int.mul_le_mul_of_nonneg_left (show max (2 * n + 1) (-(2 * n + 1)) ≤ 2 * M - 1 by omega) hc
  have h0 : 0 ≤ c * max (2 * n + 1) (-(2 * n + 1)) := Int.mul_nonneg hc (by omega)
  obtain ⟨q1, q2⟩ := tdiv_mono (x := c * (n * max n (-n))) (y := c * ((n + 1) * max (n + 1) (-(n + 1)))) (by omega)
  unfold lossI
  exact ⟨q1, by omega⟩
theorem ediv_step {a a' b k : Int} (hb : 0 < b) (h : a' ≤ a + k * b) : a' / b ≤ a / b + k := by
  have := Int.ediv_le_ediv hb h
  rwa [Int.add_mul_ediv_right _ _ (by omega)] at this

/-- Rules that are valid, in numbers. -/
structure Valid (ine area flo fhi thr : Int) : Prop where
  ineB : 1 ≤ ine ∧ ine ≤ 1000
  areaB : 1 ≤ area ∧ area ≤ 1000
  floB : 0 ≤ flo ∧ flo ≤ 100
  fhiB : 0 ≤ fhi ∧ fhi ≤ 100
  thrB : 0 ≤ thr ∧ thr ≤ 100
  le : flo ≤ fhi
  clash : 2001 * fhi + 4001 * thr + 2000 ≤ 1000 * ine
theorem Valid.of {ine area flo fhi thr : Int} (h : rulesE ine area flo fhi thr = 0) : Valid ine area flo fhi thr := by
  obtain ⟨h1, h2, h3, h4, h5, h6, h7⟩ := rulesE_zero h
  exact ⟨h1, h2, h3, h4, h5, h6, h7⟩

section
variable {ine area flo fhi thr : Int} (V : Valid ine area flo fhi thr)
include V

theorem raw_succ {lvl flow load fr : Int} (hq : -1000 ≤ flow ∧ flow + 1 ≤ 1000) (hu : 0 ≤ load ∧ load ≤ 1000) (hf : flo ≤ fr ∧ fr ≤ fhi) :
    flow - headI thr lvl flow load fr / ine ≤ flow + 1 - headI thr lvl (flow + 1) load fr / ine := by
  obtain ⟨hi, _, hlo, hhi, ht, _, hc⟩ := V
  obtain ⟨_, a1⟩ := loss_succ (c := fr) (n := flow) (M := 1000) (by omega) (by omega) (by omega)
  obtain ⟨_, a2⟩ := loss_succ (c := thr) (n := flow - load) (M := 2000) (by omega) (by omega) (by omega)
  have e : flow - load + 1 = flow + 1 - load := by omega
  rw [e] at a2
  have hst := ediv_step (a := headI thr lvl flow load fr) (a' := headI thr lvl (flow + 1) load fr) (b := ine) (k := 1) (by omega) (by unfold headI; omega)
  omega

theorem raw_mono {lvl load fr : Int} (hu : 0 ≤ load ∧ load ≤ 1000) (hf : flo ≤ fr ∧ fr ≤ fhi) : ∀ (d : Nat) (flow : Int), -1000 ≤ flow → flow + d ≤ 1000 →
    flow - headI thr lvl flow load fr / ine ≤ flow + d - headI thr lvl (flow + d) load fr / ine
  | 0, flow, _, _ => by simp
  | d + 1, flow, h1, h2 => by
    have a := raw_mono hu hf (lvl := lvl) d flow h1 (by omega)
    have b := raw_succ V (lvl := lvl) (flow := flow + d) (by omega) hu hf
    have e : flow + ((d + 1 : Nat) : Int) = flow + d + 1 := by omega
    rw [e]
    omega

theorem flow_mono {lvl flow flow' load fr : Int} (hq : -1000 ≤ flow) (hle : flow ≤ flow') (hq' : flow' ≤ 1000) (hu : 0 ≤ load ∧ load ≤ 1000) (hf : flo ≤ fr ∧ fr ≤ fhi) :
    flowI ine thr lvl flow load fr ≤ flowI ine thr lvl flow' load fr := by
  have := raw_mono V (lvl := lvl) hu hf (flow' - flow).toNat flow hq (by omega)
  have e : flow + ((flow' - flow).toNat : Int) = flow' := by omega
  rw [e] at this
  unfold flowI
  omega

theorem flow_anti {lvl lvl' flow load fr : Int} (hle : lvl ≤ lvl') : flowI ine thr lvl' flow load fr ≤ flowI ine thr lvl flow load fr ∧ flowI ine thr lvl flow load fr - flowI ine thr lvl' flow load fr ≤ lvl' - lvl := by
  have hi := V.ineB
  have a := Int.ediv_le_ediv (a := headI thr lvl flow load fr) (b := headI thr lvl' flow load fr) (c := ine) (by omega) (by unfold headI; omega)
  have hm := Int.mul_le_mul_of_nonneg_left hi.1 (show 0 ≤ lvl' - lvl by omega)
  have b := ediv_step (a := headI thr lvl flow load fr) (a' := headI thr lvl' flow load fr) (b := ine) (k := lvl' - lvl) (by omega) (by unfold headI; omega)
  unfold flowI
  omega

theorem lvl_mono {lvl fl fl' load : Int} (hle : fl ≤ fl') : lvlI area lvl fl load ≤ lvlI area lvl fl' load := by
  have ha := V.areaB
  have := Int.ediv_le_ediv (a := fl - load) (b := fl' - load) (c := area) (by omega) (by omega)
  unfold lvlI
  omega

theorem lvl_lvl {lvl lvl' fl fl' load : Int} (hle : lvl ≤ lvl') (h : fl - fl' ≤ lvl' - lvl) : lvlI area lvl fl load ≤ lvlI area lvl' fl' load := by
  have ha := V.areaB
  have hm := Int.mul_le_mul_of_nonneg_left ha.1 (show 0 ≤ lvl' - lvl by omega)
  have := ediv_step (a := fl' - load) (a' := fl - load) (b := area) (k := lvl' - lvl) (by omega) (by omega)
  unfold lvlI
  omega

omit V in
/-- A friction between two others. -/
theorem loss_between {c c0 c1 n : Int} (h0 : c0 ≤ c) (h1 : c ≤ c1) : (lossI c0 n ≤ lossI c n ∧ lossI c n ≤ lossI c1 n) ∨ (lossI c1 n ≤ lossI c n ∧ lossI c n ≤ lossI c0 n) := by
  unfold lossI
  by_cases hn : 0 ≤ n * max n (-n)
  · left
    have a := Int.mul_le_mul_of_nonneg_right h0 hn
    have b := Int.mul_le_mul_of_nonneg_right h1 hn
    exact ⟨(tdiv_mono a).1, (tdiv_mono b).1⟩
  · right
    have a := Int.mul_le_mul_of_nonpos_right h0 (show n * max n (-n) ≤ 0 by omega)
    have b := Int.mul_le_mul_of_nonpos_right h1 (show n * max n (-n) ≤ 0 by omega)
    exact ⟨(tdiv_mono b).1, (tdiv_mono a).1⟩

theorem flow_between {lvl flow load k k0 k1 : Int} (h0 : k0 ≤ k) (h1 : k ≤ k1) :
    min (flowI ine thr lvl flow load k0) (flowI ine thr lvl flow load k1) ≤ flowI ine thr lvl flow load k ∧ flowI ine thr lvl flow load k ≤ max (flowI ine thr lvl flow load k0) (flowI ine thr lvl flow load k1) := by
  have hi := V.ineB
  have key : ∀ a b, lossI a flow ≤ lossI b flow → headI thr lvl flow load a / ine ≤ headI thr lvl flow load b / ine := fun a b h => Int.ediv_le_ediv (by omega) (by unfold headI; omega)
  unfold flowI
  rcases loss_between (n := flow) h0 h1 with ⟨a, b⟩ | ⟨a, b⟩
  · have := key _ _ a; have := key _ _ b; omega
  · have := key _ _ a; have := key _ _ b; omega
end

def rangeE (lo hi m : Int) : Int := firstL [un (wi lo (-m) m && wi hi (-m) m) 2, un (decide (lo ≤ hi)) 9]
def boxE (llo lhi qlo qhi : Int) : Int := firstL [un (wi llo (-100000) 100000 && wi lhi (-100000) 100000) 2, un (decide (llo ≤ lhi)) 9, un (wi qlo (-1000) 1000 && wi qhi (-1000) 1000) 2, un (decide (qlo ≤ qhi)) 9]
def inBox (llo lhi qlo qhi lvl flow : Int) : Bool := wi lvl llo lhi && wi flow qlo qhi
theorem neg1 : IntKind.i64.wrap (0 - 100000) = -100000 := by decide
theorem neg2 : IntKind.i64.wrap (0 - 1000) = -1000 := by decide
theorem boxE_zero {llo lhi qlo qhi : Int} : boxE llo lhi qlo qhi = 0 ↔ (-100000 ≤ llo ∧ llo ≤ lhi ∧ lhi ≤ 100000) ∧ (-1000 ≤ qlo ∧ qlo ≤ qhi ∧ qhi ≤ 1000) := by
  rw [boxE, firstL_zero]
  simp only [List.mem_cons, List.not_mem_nil, or_false, forall_eq_or_imp, forall_eq, un_zero (show (2 : Int) ≠ 0 by decide), un_zero (show (9 : Int) ≠ 0 by decide), Bool.and_eq_true, wi_true, decide_eq_true_eq]
  omega

theorem c97a (lo hi : Int) : DCall Try.prog 97 [.agg [int lo, int hi], int 100000] (int (rangeE lo hi 100000)) := by
  refine DCall.walk hm (T := []) (m := 3000) trivial k97 (by first | rfl | simp [closedL, closedB, closedL_ints, *]) (by first | rfl | simp [closedL, closedB, closedL_ints, *]) rfl (tr := .v (Av.bool (wi lo (-100000) 100000)) <| .b (.t <| .r <| .n) (.v (Av.bool (wi hi (-100000) 100000)) <| .f <| .b (.n) (.b (.n) (.n)))) (Pf := (DCall Try.prog 27 [int lo, int (-100000), int 100000] (Av.bool (wi lo (-100000) 100000))) ∧ (((!wi lo (-100000) 100000) = true) → ((!wi lo (-100000) 100000) = true) ∧ (FinV (int 2) (int (rangeE lo hi 100000)))) ∧ (((!wi lo (-100000) 100000) = false) → (DCall Try.prog 27 [int hi, int (-100000), int 100000] (Av.bool (wi hi (-100000) 100000))) ∧ ((!wi lo (-100000) 100000) = false) ∧ (((!wi hi (-100000) 100000) = true) → (FinV (int 2) (int (rangeE lo hi 100000)))) ∧ (((!wi hi (-100000) 100000) = false) → ((decide (hi < lo) = true) → (FinV (int 9) (int (rangeE lo hi 100000)))) ∧ ((decide (hi < lo) = false) → (FinV (int 0) (int (rangeE lo hi 100000))))))) (by kernel_rfl) ⟨(c27 _ _ _), fun h_0 => ⟨h_0, (FinV.mk (VLe.of_eq (by simp_all [rangeE, firstL, un])))⟩, fun h_0 => ⟨(c27 _ _ _), h_0, fun h_1 => (FinV.mk (VLe.of_eq (by simp_all [rangeE, firstL, un]))), fun h_1 => ⟨fun h_2 => (have h_2d := of_decide_eq_true h_2; (FinV.mk (VLe.of_eq (by simp_all [rangeE, firstL, un])))), fun h_2 => (have h_2d := of_decide_eq_false h_2; (FinV.mk (VLe.of_eq (by simp_all [rangeE, firstL, un]))))⟩⟩⟩
theorem c97b (lo hi : Int) : DCall Try.prog 97 [.agg [int lo, int hi], int 1000] (int (rangeE lo hi 1000)) := by
  refine DCall.walk hm (T := []) (m := 3000) trivial k97 (by first | rfl | simp [closedL, closedB, closedL_ints, *]) (by first | rfl | simp [closedL, closedB, closedL_ints, *]) rfl (tr := .v (Av.bool (wi lo (-1000) 1000)) <| .b (.t <| .r <| .n) (.v (Av.bool (wi hi (-1000) 1000)) <| .f <| .b (.n) (.b (.n) (.n)))) (Pf := (DCall Try.prog 27 [int lo, int (-1000), int 1000] (Av.bool (wi lo (-1000) 1000))) ∧ (((!wi lo (-1000) 1000) = true) → ((!wi lo (-1000) 1000) = true) ∧ (FinV (int 2) (int (rangeE lo hi 1000)))) ∧ (((!wi lo (-1000) 1000) = false) → (DCall Try.prog 27 [int hi, int (-1000), int 1000] (Av.bool (wi hi (-1000) 1000))) ∧ ((!wi lo (-1000) 1000) = false) ∧ (((!wi hi (-1000) 1000) = true) → (FinV (int 2) (int (rangeE lo hi 1000)))) ∧ (((!wi hi (-1000) 1000) = false) → ((decide (hi < lo) = true) → (FinV (int 9) (int (rangeE lo hi 1000)))) ∧ ((decide (hi < lo) = false) → (FinV (int 0) (int (rangeE lo hi 1000))))))) (by kernel_rfl) ⟨(c27 _ _ _), fun h_3 => ⟨h_3, (FinV.mk (VLe.of_eq (by simp_all [rangeE, firstL, un])))⟩, fun h_3 => ⟨(c27 _ _ _), h_3, fun h_4 => (FinV.mk (VLe.of_eq (by simp_all [rangeE, firstL, un]))), fun h_4 => ⟨fun h_5 => (have h_5d := of_decide_eq_true h_5; (FinV.mk (VLe.of_eq (by simp_all [rangeE, firstL, un])))), fun h_5 => (have h_5d := of_decide_eq_false h_5; (FinV.mk (VLe.of_eq (by simp_all [rangeE, firstL, un]))))⟩⟩⟩
theorem c24 (llo lhi qlo qhi : Int) : DCall Try.prog 24 [.agg [int llo, int lhi, int qlo, int qhi]] (int (boxE llo lhi qlo qhi)) := by
  refine DCall.walk hm (T := []) (m := 3000) trivial k24 (by first | rfl | simp [closedL, closedB, closedL_ints, *]) (by first | rfl | simp [closedL, closedB, closedL_ints, *]) rfl (tr := .v (int (rangeE llo lhi 100000)) <| .b (.n) (.v (int (rangeE qlo qhi 1000)) <| .n)) (Pf := (DCall Try.prog 97 [AV.agg [int llo, int lhi], int 100000] (int (rangeE llo lhi 100000))) ∧ (((rangeE llo lhi 100000 != 0) = true) → (FinV (int (rangeE llo lhi 100000)) (int (boxE llo lhi qlo qhi)))) ∧ (((rangeE llo lhi 100000 != 0) = false) → (DCall Try.prog 97 [AV.agg [int qlo, int qhi], int 1000] (int (rangeE qlo qhi 1000))) ∧ (FinV (int (rangeE qlo qhi 1000)) (int (boxE llo lhi qlo qhi))))) (by kernel_rfl) ⟨(c97a _ _), fun h_6 => (FinV.mk (VLe.of_eq (by (simp only [rangeE, boxE, firstL] at *; grind)))), fun h_6 => ⟨(c97b _ _), (FinV.mk (VLe.of_eq (by (simp only [rangeE, boxE, firstL] at *; grind))))⟩⟩
theorem c118 (llo lhi qlo qhi : Int) : DCall Try.prog 118 [.agg [int llo, int lhi, int qlo, int qhi]] (int (boxE llo lhi qlo qhi)) := by
  refine DCall.walk hm (T := []) (m := 3000) trivial k118 (by first | rfl | simp [closedL, closedB, closedL_ints, *]) (by first | rfl | simp [closedL, closedB, closedL_ints, *]) rfl (tr := .v (Av.bool (wi llo (-100000) 100000)) <| .b (.v (Av.bool (wi lhi (-100000) 100000)) <| .t <| .v (int (un (wi lhi (-100000) 100000) 2)) <| .v (int (un (decide (llo ≤ lhi)) 9)) <| .v (Av.bool (wi qlo (-1000) 1000)) <| .b (.v (Av.bool (wi qhi (-1000) 1000)) <| .t <| .v (int (un (wi qhi (-1000) 1000) 2)) <| .v (int (un (decide (qlo ≤ qhi)) 9)) <| .v (int (firstL [un (wi lhi (-100000) 100000) 2, un (decide (llo ≤ lhi)) 9, un (wi qhi (-1000) 1000) 2, un (decide (qlo ≤ qhi)) 9])) <| .n) (.f <| .v (int (un false 2)) <| .v (int (un (decide (qlo ≤ qhi)) 9)) <| .v (int (firstL [un (wi lhi (-100000) 100000) 2, un (decide (llo ≤ lhi)) 9, 2, un (decide (qlo ≤ qhi)) 9])) <| .n)) (.f <| .v (int (un false 2)) <| .v (int (un (decide (llo ≤ lhi)) 9)) <| .v (Av.bool (wi qlo (-1000) 1000)) <| .b (.v (Av.bool (wi qhi (-1000) 1000)) <| .t <| .v (int (un (wi qhi (-1000) 1000) 2)) <| .v (int (un (decide (qlo ≤ qhi)) 9)) <| .v (int (firstL [2, un (decide (llo ≤ lhi)) 9, un (wi qhi (-1000) 1000) 2, un (decide (qlo ≤ qhi)) 9])) <| .n) (.f <| .v (int (un false 2)) <| .v (int (un (decide (qlo ≤ qhi)) 9)) <| .v (int (firstL [2, un (decide (llo ≤ lhi)) 9, 2, un (decide (qlo ≤ qhi)) 9])) <| .n))) (Pf := (DCall Try.prog 142 [int llo] (Av.bool (wi llo (-100000) 100000))) ∧ ((wi llo (-100000) 100000 = true) → (DCall Try.prog 142 [int lhi] (Av.bool (wi lhi (-100000) 100000))) ∧ (wi llo (-100000) 100000 = true) ∧ (DCall Try.prog 93 [Av.bool (wi lhi (-100000) 100000), int 2] (int (un (wi lhi (-100000) 100000) 2))) ∧ (DCall Try.prog 93 [Av.bool (decide (llo ≤ lhi)), int 9] (int (un (decide (llo ≤ lhi)) 9))) ∧ (DCall Try.prog 143 [int qlo] (Av.bool (wi qlo (-1000) 1000))) ∧ ((wi qlo (-1000) 1000 = true) → (DCall Try.prog 143 [int qhi] (Av.bool (wi qhi (-1000) 1000))) ∧ (wi qlo (-1000) 1000 = true) ∧ (DCall Try.prog 93 [Av.bool (wi qhi (-1000) 1000), int 2] (int (un (wi qhi (-1000) 1000) 2))) ∧ (DCall Try.prog 93 [Av.bool (decide (qlo ≤ qhi)), int 9] (int (un (decide (qlo ≤ qhi)) 9))) ∧ (DCall Try.prog 87 [AV.sl SK.ex 1 (List.map int [un (wi lhi (-100000) 100000) 2, un (decide (llo ≤ lhi)) 9, un (wi qhi (-1000) 1000) 2, un (decide (qlo ≤ qhi)) 9])] (int (firstL [un (wi lhi (-100000) 100000) 2, un (decide (llo ≤ lhi)) 9, un (wi qhi (-1000) 1000) 2, un (decide (qlo ≤ qhi)) 9]))) ∧ (FinV (int (firstL [un (wi lhi (-100000) 100000) 2, un (decide (llo ≤ lhi)) 9, un (wi qhi (-1000) 1000) 2, un (decide (qlo ≤ qhi)) 9])) (int (boxE llo lhi qlo qhi)))) ∧ ((wi qlo (-1000) 1000 = false) → (wi qlo (-1000) 1000 = false) ∧ (DCall Try.prog 93 [Av.bool false, int 2] (int (un false 2))) ∧ (DCall Try.prog 93 [Av.bool (decide (qlo ≤ qhi)), int 9] (int (un (decide (qlo ≤ qhi)) 9))) ∧ (DCall Try.prog 87 [AV.sl SK.ex 1 (List.map int [un (wi lhi (-100000) 100000) 2, un (decide (llo ≤ lhi)) 9, 2, un (decide (qlo ≤ qhi)) 9])] (int (firstL [un (wi lhi (-100000) 100000) 2, un (decide (llo ≤ lhi)) 9, 2, un (decide (qlo ≤ qhi)) 9]))) ∧ (FinV (int (firstL [un (wi lhi (-100000) 100000) 2, un (decide (llo ≤ lhi)) 9, 2, un (decide (qlo ≤ qhi)) 9])) (int (boxE llo lhi qlo qhi))))) ∧ ((wi llo (-100000) 100000 = false) → (wi llo (-100000) 100000 = false) ∧ (DCall Try.prog 93 [Av.bool false, int 2] (int (un false 2))) ∧ (DCall Try.prog 93 [Av.bool (decide (llo ≤ lhi)), int 9] (int (un (decide (llo ≤ lhi)) 9))) ∧ (DCall Try.prog 143 [int qlo] (Av.bool (wi qlo (-1000) 1000))) ∧ ((wi qlo (-1000) 1000 = true) → (DCall Try.prog 143 [int qhi] (Av.bool (wi qhi (-1000) 1000))) ∧ (wi qlo (-1000) 1000 = true) ∧ (DCall Try.prog 93 [Av.bool (wi qhi (-1000) 1000), int 2] (int (un (wi qhi (-1000) 1000) 2))) ∧ (DCall Try.prog 93 [Av.bool (decide (qlo ≤ qhi)), int 9] (int (un (decide (qlo ≤ qhi)) 9))) ∧ (DCall Try.prog 87 [AV.sl SK.ex 1 (List.map int [2, un (decide (llo ≤ lhi)) 9, un (wi qhi (-1000) 1000) 2, un (decide (qlo ≤ qhi)) 9])] (int (firstL [2, un (decide (llo ≤ lhi)) 9, un (wi qhi (-1000) 1000) 2, un (decide (qlo ≤ qhi)) 9]))) ∧ (FinV (int (firstL [2, un (decide (llo ≤ lhi)) 9, un (wi qhi (-1000) 1000) 2, un (decide (qlo ≤ qhi)) 9])) (int (boxE llo lhi qlo qhi)))) ∧ ((wi qlo (-1000) 1000 = false) → (wi qlo (-1000) 1000 = false) ∧ (DCall Try.prog 93 [Av.bool false, int 2] (int (un false 2))) ∧ (DCall Try.prog 93 [Av.bool (decide (qlo ≤ qhi)), int 9] (int (un (decide (qlo ≤ qhi)) 9))) ∧ (DCall Try.prog 87 [AV.sl SK.ex 1 (List.map int [2, un (decide (llo ≤ lhi)) 9, 2, un (decide (qlo ≤ qhi)) 9])] (int (firstL [2, un (decide (llo ≤ lhi)) 9, 2, un (decide (qlo ≤ qhi)) 9]))) ∧ (FinV (int (firstL [2, un (decide (llo ≤ lhi)) 9, 2, un (decide (qlo ≤ qhi)) 9])) (int (boxE llo lhi qlo qhi)))))) (by kernel_rfl) ⟨(c142 _), fun h_7 => ⟨(c142 _), h_7, (c93 _ _), (c93 _ _), (c143 _), fun h_8 => ⟨(c143 _), h_8, (c93 _ _), (c93 _ _), (c87 [_, _, _, _] (by simp)), (FinV.mk (VLe.of_eq (by simp [boxE, un, *])))⟩, fun h_8 => ⟨h_8, (c93 _ _), (c93 _ _), (c87 [_, _, _, _] (by simp)), (FinV.mk (VLe.of_eq (by simp [boxE, un, *])))⟩⟩, fun h_7 => ⟨h_7, (c93 _ _), (c93 _ _), (c143 _), fun h_9 => ⟨(c143 _), h_9, (c93 _ _), (c93 _ _), (c87 [_, _, _, _] (by simp)), (FinV.mk (VLe.of_eq (by simp [boxE, un, *])))⟩, fun h_9 => ⟨h_9, (c93 _ _), (c93 _ _), (c87 [_, _, _, _] (by simp)), (FinV.mk (VLe.of_eq (by simp [boxE, un, *])))⟩⟩⟩
theorem c55 (ine area flo fhi thr : Int) (llo lhi qlo qhi : Int) : DCall Try.prog 55 [.agg [int ine, int area, int flo, int fhi, int thr], .agg [int llo, int lhi, int qlo, int qhi]] (int (firstL [rulesE ine area flo fhi thr, boxE llo lhi qlo qhi])) := by
  refine DCall.walk hm (T := []) (m := 3000) trivial k55 (by first | rfl | simp [closedL, closedB, closedL_ints, *]) (by first | rfl | simp [closedL, closedB, closedL_ints, *]) rfl (tr := .v (int (rulesE ine area flo fhi thr)) <| .v (int (boxE llo lhi qlo qhi)) <| .v (int (firstL [rulesE ine area flo fhi thr, boxE llo lhi qlo qhi])) <| .n) (Pf := (DCall Try.prog 18 [AV.agg [int ine, int area, int flo, int fhi, int thr]] (int (rulesE ine area flo fhi thr))) ∧ (DCall Try.prog 118 [AV.agg [int llo, int lhi, int qlo, int qhi]] (int (boxE llo lhi qlo qhi))) ∧ (DCall Try.prog 87 [AV.sl SK.ex 1 (List.map int [rulesE ine area flo fhi thr, boxE llo lhi qlo qhi])] (int (firstL [rulesE ine area flo fhi thr, boxE llo lhi qlo qhi]))) ∧ (FinV (int (firstL [rulesE ine area flo fhi thr, boxE llo lhi qlo qhi])) (int (firstL [rulesE ine area flo fhi thr, boxE llo lhi qlo qhi])))) (by kernel_rfl) ⟨(c18 _ _ _ _ _), (c118 _ _ _ _), (c87 [_, _] (by simp)), (FinV.mk (VLe.of_eq (by simp [*])))⟩
theorem c26 (llo lhi qlo qhi lvl flow : Int) : DCall Try.prog 26 [.agg [int llo, int lhi, int qlo, int qhi], .agg [int lvl, int flow]] (bool (inBox llo lhi qlo qhi lvl flow)) := by
  refine DCall.walk hm (T := []) (m := 3000) trivial k26 (by first | rfl | simp [closedL, closedB, closedL_ints, *]) (by first | rfl | simp [closedL, closedB, closedL_ints, *]) rfl (tr := .v (Av.bool (wi lvl llo lhi)) <| .b (.v (Av.bool (wi flow qlo qhi)) <| .t <| .n) (.f <| .n)) (Pf := (DCall Try.prog 27 [int lvl, int llo, int lhi] (Av.bool (wi lvl llo lhi))) ∧ ((wi lvl llo lhi = true) → (DCall Try.prog 27 [int flow, int qlo, int qhi] (Av.bool (wi flow qlo qhi))) ∧ (wi lvl llo lhi = true) ∧ (FinV (Av.bool (wi flow qlo qhi)) (Av.bool (inBox llo lhi qlo qhi lvl flow)))) ∧ ((wi lvl llo lhi = false) → (wi lvl llo lhi = false) ∧ (FinV (Av.bool false) (Av.bool (inBox llo lhi qlo qhi lvl flow))))) (by kernel_rfl) ⟨(c27 _ _ _), fun h_10 => ⟨(c27 _ _ _), h_10, (FinV.mk (VLe.of_eq (by simp [inBox, *])))⟩, fun h_10 => ⟨h_10, (FinV.mk (VLe.of_eq (by simp [inBox, *])))⟩⟩

def sF (ine thr load k lvl flow : Int) : Int := stepF ine thr lvl flow load k
def sV (ine area thr load k lvl flow : Int) : Int := stepV area lvl (stepF ine thr lvl flow load k) load

theorem c98 (ine area flo fhi thr : Int) (llo lhi qlo qhi load : Int) (hi : ine ≠ 0) (ha : area ≠ 0) : DCall Try.prog 98 [.agg [int ine, int area, int flo, int fhi, int thr], .agg [int llo, int lhi, int qlo, int qhi], int load] (.agg [int (min (sV ine area thr load flo llo qlo) (sV ine area thr load fhi llo qlo)), int (max (sV ine area thr load flo lhi qhi) (sV ine area thr load fhi lhi qhi)), int (min (sF ine thr load flo lhi qlo) (sF ine thr load fhi lhi qlo)), int (max (sF ine thr load flo llo qhi) (sF ine thr load fhi llo qhi))]) := by
  refine DCall.walk hm (T := [(145, Try.f145)]) (m := 3000) ⟨k145, trivial⟩ k98 (by first | rfl | simp [closedL, closedB, closedL_ints, *]) (by first | rfl | simp [closedL, closedB, closedL_ints, *]) rfl (tr := .i <| .v (AV.agg [int (stepV area llo (stepF ine thr llo qlo load flo) load), int (stepF ine thr llo qlo load flo)]) <| .v (AV.agg [int (stepV area llo (stepF ine thr llo qlo load fhi) load), int (stepF ine thr llo qlo load fhi)]) <| .i <| .v (AV.agg [int (stepV area lhi (stepF ine thr lhi qhi load flo) load), int (stepF ine thr lhi qhi load flo)]) <| .v (AV.agg [int (stepV area lhi (stepF ine thr lhi qhi load fhi) load), int (stepF ine thr lhi qhi load fhi)]) <| .i <| .v (AV.agg [int (stepV area lhi (stepF ine thr lhi qlo load flo) load), int (stepF ine thr lhi qlo load flo)]) <| .v (AV.agg [int (stepV area lhi (stepF ine thr lhi qlo load fhi) load), int (stepF ine thr lhi qlo load fhi)]) <| .i <| .v (AV.agg [int (stepV area llo (stepF ine thr llo qhi load flo) load), int (stepF ine thr llo qhi load flo)]) <| .v (AV.agg [int (stepV area llo (stepF ine thr llo qhi load fhi) load), int (stepF ine thr llo qhi load fhi)]) <| .n) (Pf := (DCall Try.prog 90 [AV.agg [int ine, int area, int flo, int fhi, int thr], AV.agg [int llo, int qlo], int load, int flo] (AV.agg [int (stepV area llo (stepF ine thr llo qlo load flo) load), int (stepF ine thr llo qlo load flo)])) ∧ (DCall Try.prog 90 [AV.agg [int ine, int area, int flo, int fhi, int thr], AV.agg [int llo, int qlo], int load, int fhi] (AV.agg [int (stepV area llo (stepF ine thr llo qlo load fhi) load), int (stepF ine thr llo qlo load fhi)])) ∧ (DCall Try.prog 90 [AV.agg [int ine, int area, int flo, int fhi, int thr], AV.agg [int lhi, int qhi], int load, int flo] (AV.agg [int (stepV area lhi (stepF ine thr lhi qhi load flo) load), int (stepF ine thr lhi qhi load flo)])) ∧ (DCall Try.prog 90 [AV.agg [int ine, int area, int flo, int fhi, int thr], AV.agg [int lhi, int qhi], int load, int fhi] (AV.agg [int (stepV area lhi (stepF ine thr lhi qhi load fhi) load), int (stepF ine thr lhi qhi load fhi)])) ∧ (DCall Try.prog 90 [AV.agg [int ine, int area, int flo, int fhi, int thr], AV.agg [int lhi, int qlo], int load, int flo] (AV.agg [int (stepV area lhi (stepF ine thr lhi qlo load flo) load), int (stepF ine thr lhi qlo load flo)])) ∧ (DCall Try.prog 90 [AV.agg [int ine, int area, int flo, int fhi, int thr], AV.agg [int lhi, int qlo], int load, int fhi] (AV.agg [int (stepV area lhi (stepF ine thr lhi qlo load fhi) load), int (stepF ine thr lhi qlo load fhi)])) ∧ (DCall Try.prog 90 [AV.agg [int ine, int area, int flo, int fhi, int thr], AV.agg [int llo, int qhi], int load, int flo] (AV.agg [int (stepV area llo (stepF ine thr llo qhi load flo) load), int (stepF ine thr llo qhi load flo)])) ∧ (DCall Try.prog 90 [AV.agg [int ine, int area, int flo, int fhi, int thr], AV.agg [int llo, int qhi], int load, int fhi] (AV.agg [int (stepV area llo (stepF ine thr llo qhi load fhi) load), int (stepF ine thr llo qhi load fhi)])) ∧ (FinV (AV.agg [int (min (stepV area llo (stepF ine thr llo qlo load flo) load) (stepV area llo (stepF ine thr llo qlo load fhi) load)), int (max (stepV area lhi (stepF ine thr lhi qhi load flo) load) (stepV area lhi (stepF ine thr lhi qhi load fhi) load)), int (min (stepF ine thr lhi qlo load flo) (stepF ine thr lhi qlo load fhi)), int (max (stepF ine thr llo qhi load flo) (stepF ine thr llo qhi load fhi))]) (AV.agg [int (min (sV ine area thr load flo llo qlo) (sV ine area thr load fhi llo qlo)), int (max (sV ine area thr load flo lhi qhi) (sV ine area thr load fhi lhi qhi)), int (min (sF ine thr load flo lhi qlo) (sF ine thr load fhi lhi qlo)), int (max (sF ine thr load flo llo qhi) (sF ine thr load fhi llo qhi))]))) (by kernel_rfl) ⟨(c90 _ _ _ _ _ _ _ _ _ hi ha), (c90 _ _ _ _ _ _ _ _ _ hi ha), (c90 _ _ _ _ _ _ _ _ _ hi ha), (c90 _ _ _ _ _ _ _ _ _ hi ha), (c90 _ _ _ _ _ _ _ _ _ hi ha), (c90 _ _ _ _ _ _ _ _ _ hi ha), (c90 _ _ _ _ _ _ _ _ _ hi ha), (c90 _ _ _ _ _ _ _ _ _ hi ha), (FinV.mk (VLe.of_eq (by rfl)))⟩
theorem flowI_bound {ine thr lvl flow load fr : Int} : -1000 ≤ flowI ine thr lvl flow load fr ∧ flowI ine thr lvl flow load fr ≤ 1000 := by unfold flowI; omega
section
variable {ine area flo fhi thr : Int} (V : Valid ine area flo fhi thr)
include V
theorem step_both {lvl flow load fr : Int} (hl : -1000000000 ≤ lvl ∧ lvl ≤ 1000000000) (hq : -1000 ≤ flow ∧ flow ≤ 1000) (hu : 0 ≤ load ∧ load ≤ 1000) (hf : flo ≤ fr ∧ fr ≤ fhi) :
    stepF ine thr lvl flow load fr = flowI ine thr lvl flow load fr ∧ stepV area lvl (stepF ine thr lvl flow load fr) load = lvlI area lvl (flowI ine thr lvl flow load fr) load := by
  have e := stepF_eq (load := load) (fr := fr) V.ineB V.thrB hl hq hu (by have := V.floB; have := V.fhiB; omega)
  refine ⟨e, ?_⟩
  rw [e]
  exact stepV_eq V.areaB.1 hl flowI_bound hu
theorem cross_lvl {lvl lvl' flow load fr : Int} (hl : -1000000000 ≤ lvl ∧ lvl ≤ 1000000000) (hl' : -1000000000 ≤ lvl' ∧ lvl' ≤ 1000000000) (hle : lvl ≤ lvl') (hq : -1000 ≤ flow ∧ flow ≤ 1000) (hu : 0 ≤ load ∧ load ≤ 1000) (hf : flo ≤ fr ∧ fr ≤ fhi) :
    stepF ine thr lvl' flow load fr ≤ stepF ine thr lvl flow load fr ∧ stepV area lvl (stepF ine thr lvl flow load fr) load ≤ stepV area lvl' (stepF ine thr lvl' flow load fr) load := by
  obtain ⟨a1, a2⟩ := step_both V hl hq hu hf
  obtain ⟨b1, b2⟩ := step_both V hl' hq hu hf
  obtain ⟨c1, c2⟩ := flow_anti V (flow := flow) (load := load) (fr := fr) hle
  rw [a2, b2, a1, b1]
  exact ⟨c1, lvl_lvl V hle c2⟩
theorem cross_flow {lvl flow flow' load fr : Int} (hl : -1000000000 ≤ lvl ∧ lvl ≤ 1000000000) (hq : -1000 ≤ flow) (hle : flow ≤ flow') (hq' : flow' ≤ 1000) (hu : 0 ≤ load ∧ load ≤ 1000) (hf : flo ≤ fr ∧ fr ≤ fhi) :
    stepF ine thr lvl flow load fr ≤ stepF ine thr lvl flow' load fr ∧ stepV area lvl (stepF ine thr lvl flow load fr) load ≤ stepV area lvl (stepF ine thr lvl flow' load fr) load := by
  obtain ⟨a1, a2⟩ := step_both V hl (flow := flow) (by omega) hu hf
  obtain ⟨b1, b2⟩ := step_both V hl (flow := flow') (by omega) hu hf
  have c1 := flow_mono V (lvl := lvl) hq hle hq' hu hf
  rw [a2, b2, a1, b1]
  exact ⟨c1, lvl_mono V c1⟩
end
theorem steppedE_of {ine area flo fhi thr lvl flow load fr : Int} (h1 : rulesE ine area flo fhi thr = 0) (h2 : stateE lvl flow = 0) (h3 : loadE load = 0) (h4 : fricE flo fhi fr = 0) : steppedE ine area flo fhi thr lvl flow load fr = 0 := by
  simp [steppedE, firstL, h1, h2, h3, h4]

def boxSE (ine area flo fhi thr llo lhi qlo qhi load : Int) : Int := firstL [firstL [rulesE ine area flo fhi thr, boxE llo lhi qlo qhi], loadE load]
theorem boxSE_zero {ine area flo fhi thr llo lhi qlo qhi load : Int} : boxSE ine area flo fhi thr llo lhi qlo qhi load = 0 ↔ rulesE ine area flo fhi thr = 0 ∧ boxE llo lhi qlo qhi = 0 ∧ loadE load = 0 := by
  simp [boxSE, firstL_zero, and_assoc]
theorem bine_of {ine area flo fhi thr llo lhi qlo qhi load : Int} (h : (boxSE ine area flo fhi thr llo lhi qlo qhi load == 0) = true) : ine ≠ 0 := by
  have := (rulesE_zero (boxSE_zero.1 (beq_true' h)).1).1; omega
theorem barea_of {ine area flo fhi thr llo lhi qlo qhi load : Int} (h : (boxSE ine area flo fhi thr llo lhi qlo qhi load == 0) = true) : area ≠ 0 := by
  have := (rulesE_zero (boxSE_zero.1 (beq_true' h)).1).2.1; omega
theorem c25 (ine area flo fhi thr : Int) (llo lhi qlo qhi load : Int) : DCall Try.prog 25 [.agg [int ine, int area, int flo, int fhi, int thr], .agg [int llo, int lhi, int qlo, int qhi], int load] (.tup [.agg [int (if boxSE ine area flo fhi thr llo lhi qlo qhi load = 0 then min (sV ine area thr load flo llo qlo) (sV ine area thr load fhi llo qlo) else 0), int (if boxSE ine area flo fhi thr llo lhi qlo qhi load = 0 then max (sV ine area thr load flo lhi qhi) (sV ine area thr load fhi lhi qhi) else 0), int (if boxSE ine area flo fhi thr llo lhi qlo qhi load = 0 then min (sF ine thr load flo lhi qlo) (sF ine thr load fhi lhi qlo) else 0), int (if boxSE ine area flo fhi thr llo lhi qlo qhi load = 0 then max (sF ine thr load flo llo qhi) (sF ine thr load fhi llo qhi) else 0)], int (boxSE ine area flo fhi thr llo lhi qlo qhi load)]) := by
  have hs : firstL [firstL [rulesE ine area flo fhi thr, boxE llo lhi qlo qhi], loadE load] = boxSE ine area flo fhi thr llo lhi qlo qhi load := rfl
  by_cases h : boxSE ine area flo fhi thr llo lhi qlo qhi load = 0
  · have hi : ine ≠ 0 := bine_of (by simpa using h)
    have ha : area ≠ 0 := barea_of (by simpa using h)
    rw [if_pos h, if_pos h, if_pos h, if_pos h, h]
    refine DCall.walk hm (T := []) (m := 3000) trivial k25 (by first | rfl | simp [closedL, closedB, closedL_ints, *]) (by first | rfl | simp [closedL, closedB, closedL_ints, *]) rfl (tr := .v (int (firstL [rulesE ine area flo fhi thr, boxE llo lhi qlo qhi])) <| .v (int (loadE load)) <| .v (int (firstL [firstL [rulesE ine area flo fhi thr, boxE llo lhi qlo qhi], loadE load])) <| .f <| .v (AV.agg [int (min (sV ine area thr load flo llo qlo) (sV ine area thr load fhi llo qlo)), int (max (sV ine area thr load flo lhi qhi) (sV ine area thr load fhi lhi qhi)), int (min (sF ine thr load flo lhi qlo) (sF ine thr load fhi lhi qlo)), int (max (sF ine thr load flo llo qhi) (sF ine thr load fhi llo qhi))]) <| .n) (Pf := (DCall Try.prog 55 [AV.agg [int ine, int area, int flo, int fhi, int thr], AV.agg [int llo, int lhi, int qlo, int qhi]] (int (firstL [rulesE ine area flo fhi thr, boxE llo lhi qlo qhi]))) ∧ (DCall Try.prog 88 [int load] (int (loadE load))) ∧ (DCall Try.prog 87 [AV.sl SK.ex 1 (List.map int [firstL [rulesE ine area flo fhi thr, boxE llo lhi qlo qhi], loadE load])] (int (firstL [firstL [rulesE ine area flo fhi thr, boxE llo lhi qlo qhi], loadE load]))) ∧ ((firstL [firstL [rulesE ine area flo fhi thr, boxE llo lhi qlo qhi], loadE load] != 0) = false) ∧ (DCall Try.prog 98 [AV.agg [int ine, int area, int flo, int fhi, int thr], AV.agg [int llo, int lhi, int qlo, int qhi], int load] (AV.agg [int (min (sV ine area thr load flo llo qlo) (sV ine area thr load fhi llo qlo)), int (max (sV ine area thr load flo lhi qhi) (sV ine area thr load fhi lhi qhi)), int (min (sF ine thr load flo lhi qlo) (sF ine thr load fhi lhi qlo)), int (max (sF ine thr load flo llo qhi) (sF ine thr load fhi llo qhi))])) ∧ (FinV (AV.tup [AV.agg [int (min (sV ine area thr load flo llo qlo) (sV ine area thr load fhi llo qlo)), int (max (sV ine area thr load flo lhi qhi) (sV ine area thr load fhi lhi qhi)), int (min (sF ine thr load flo lhi qlo) (sF ine thr load fhi lhi qlo)), int (max (sF ine thr load flo llo qhi) (sF ine thr load fhi llo qhi))], int 0]) (AV.tup [AV.agg [int (min (sV ine area thr load flo llo qlo) (sV ine area thr load fhi llo qlo)), int (max (sV ine area thr load flo lhi qhi) (sV ine area thr load fhi lhi qhi)), int (min (sF ine thr load flo lhi qlo) (sF ine thr load fhi lhi qlo)), int (max (sF ine thr load flo llo qhi) (sF ine thr load fhi llo qhi))], int 0]))) (by kernel_rfl) ⟨(c55 _ _ _ _ _ _ _ _ _), (c88 _), (c87 [_, _] (by simp)), (by simp [hs, h]), (c98 _ _ _ _ _ _ _ _ _ _ hi ha), (FinV.mk (VLe.of_eq (by rfl)))⟩
  · rw [if_neg h, if_neg h, if_neg h, if_neg h]
    refine DCall.walk hm (T := []) (m := 3000) trivial k25 (by first | rfl | simp [closedL, closedB, closedL_ints, *]) (by first | rfl | simp [closedL, closedB, closedL_ints, *]) rfl (tr := .v (int (firstL [rulesE ine area flo fhi thr, boxE llo lhi qlo qhi])) <| .v (int (loadE load)) <| .v (int (firstL [firstL [rulesE ine area flo fhi thr, boxE llo lhi qlo qhi], loadE load])) <| .t <| .n) (Pf := (DCall Try.prog 55 [AV.agg [int ine, int area, int flo, int fhi, int thr], AV.agg [int llo, int lhi, int qlo, int qhi]] (int (firstL [rulesE ine area flo fhi thr, boxE llo lhi qlo qhi]))) ∧ (DCall Try.prog 88 [int load] (int (loadE load))) ∧ (DCall Try.prog 87 [AV.sl SK.ex 1 (List.map int [firstL [rulesE ine area flo fhi thr, boxE llo lhi qlo qhi], loadE load])] (int (firstL [firstL [rulesE ine area flo fhi thr, boxE llo lhi qlo qhi], loadE load]))) ∧ ((firstL [firstL [rulesE ine area flo fhi thr, boxE llo lhi qlo qhi], loadE load] != 0) = true) ∧ (FinV (AV.tup [AV.agg [int 0, int 0, int 0, int 0], int (firstL [firstL [rulesE ine area flo fhi thr, boxE llo lhi qlo qhi], loadE load])]) (AV.tup [AV.agg [int 0, int 0, int 0, int 0], int (boxSE ine area flo fhi thr llo lhi qlo qhi load)]))) (by kernel_rfl) ⟨(c55 _ _ _ _ _ _ _ _ _), (c88 _), (c87 [_, _] (by simp)), (by simp [hs, h]), (FinV.mk (VLe.of_eq (by rfl)))⟩

theorem c16v (ine area flo fhi thr : Int) (lvl flow load fr : Int) (h : steppedE ine area flo fhi thr lvl flow load fr = 0) : DCall Try.prog 16 [.agg [int ine, int area, int flo, int fhi, int thr], .agg [int lvl, int flow], .agg [int load, int fr]] (.tup [.agg [int (sV ine area thr load fr lvl flow), int (sF ine thr load fr lvl flow)], int 0]) := by
  have := c16 ine area flo fhi thr lvl flow load fr
  rwa [if_pos h, if_pos h, h] at this
theorem c25v (ine area flo fhi thr : Int) (llo lhi qlo qhi load : Int) (h : boxSE ine area flo fhi thr llo lhi qlo qhi load = 0) : DCall Try.prog 25 [.agg [int ine, int area, int flo, int fhi, int thr], .agg [int llo, int lhi, int qlo, int qhi], int load] (.tup [.agg [int (min (sV ine area thr load flo llo qlo) (sV ine area thr load fhi llo qlo)), int (max (sV ine area thr load flo lhi qhi) (sV ine area thr load fhi lhi qhi)), int (min (sF ine thr load flo lhi qlo) (sF ine thr load fhi lhi qlo)), int (max (sF ine thr load flo llo qhi) (sF ine thr load fhi llo qhi))], int 0]) := by
  have := c25 ine area flo fhi thr llo lhi qlo qhi load
  rwa [if_pos h, if_pos h, if_pos h, if_pos h, h] at this

section
variable {ine area flo fhi thr load : Int} (V : Valid ine area flo fhi thr) (hu : 0 ≤ load ∧ load ≤ 1000)
include V hu
theorem sV_mono {k lvl lvl' flow flow' : Int} (hk : flo ≤ k ∧ k ≤ fhi) (hl : -1000000000 ≤ lvl) (hll : lvl ≤ lvl') (hl' : lvl' ≤ 1000000000) (hq : -1000 ≤ flow) (hqq : flow ≤ flow') (hq' : flow' ≤ 1000) :
    sV ine area thr load k lvl flow ≤ sV ine area thr load k lvl' flow' := by
  have a := (cross_lvl V (flow := flow) (load := load) (fr := k) (lvl := lvl) (lvl' := lvl') (by omega) (by omega) hll (by omega) hu hk).2
  have b := (cross_flow V (lvl := lvl') (flow := flow) (flow' := flow') (load := load) (fr := k) (by omega) hq hqq hq' hu hk).2
  exact Int.le_trans a b
theorem sF_mono {k lvl lvl' flow flow' : Int} (hk : flo ≤ k ∧ k ≤ fhi) (hl : -1000000000 ≤ lvl') (hll : lvl' ≤ lvl) (hl' : lvl ≤ 1000000000) (hq : -1000 ≤ flow) (hqq : flow ≤ flow') (hq' : flow' ≤ 1000) :
    sF ine thr load k lvl flow ≤ sF ine thr load k lvl' flow' := by
  have a := (cross_lvl V (flow := flow) (load := load) (fr := k) (lvl := lvl') (lvl' := lvl) (by omega) (by omega) hll (by omega) hu hk).1
  have b := (cross_flow V (lvl := lvl') (flow := flow) (flow' := flow') (load := load) (fr := k) (by omega) hq hqq hq' hu hk).1
  exact Int.le_trans a b
theorem sF_bound {k lvl flow : Int} (hk : flo ≤ k ∧ k ≤ fhi) (hl : -1000000000 ≤ lvl ∧ lvl ≤ 1000000000) (hq : -1000 ≤ flow ∧ flow ≤ 1000) : -1000 ≤ sF ine thr load k lvl flow ∧ sF ine thr load k lvl flow ≤ 1000 := by
  obtain ⟨a, _⟩ := step_both V hl hq hu hk
  unfold sF
  rw [a]
  exact flowI_bound
theorem s_between {k lvl flow : Int} (hk : flo ≤ k ∧ k ≤ fhi) (hl : -1000000000 ≤ lvl ∧ lvl ≤ 1000000000) (hq : -1000 ≤ flow ∧ flow ≤ 1000) :
    (min (sF ine thr load flo lvl flow) (sF ine thr load fhi lvl flow) ≤ sF ine thr load k lvl flow ∧ sF ine thr load k lvl flow ≤ max (sF ine thr load flo lvl flow) (sF ine thr load fhi lvl flow)) ∧
    (min (sV ine area thr load flo lvl flow) (sV ine area thr load fhi lvl flow) ≤ sV ine area thr load k lvl flow ∧ sV ine area thr load k lvl flow ≤ max (sV ine area thr load flo lvl flow) (sV ine area thr load fhi lvl flow)) := by
  have hle := V.le
  obtain ⟨a1, a2⟩ := step_both V hl hq hu hk
  obtain ⟨b1, b2⟩ := step_both V hl hq hu (fr := flo) ⟨Int.le_refl _, hle⟩
  obtain ⟨c1, c2⟩ := step_both V hl hq hu (fr := fhi) ⟨hle, Int.le_refl _⟩
  have hb := flow_between V (lvl := lvl) (flow := flow) (load := load) hk.1 hk.2
  unfold sF sV
  rw [a2, b2, c2, a1, b1, c1]
  refine ⟨hb, ?_⟩
  have m1 := fun x y (h : x ≤ y) => lvl_mono V (lvl := lvl) (load := load) (fl := x) (fl' := y) h
  by_cases h : flowI ine thr lvl flow load flo ≤ flowI ine thr lvl flow load fhi
  · have p := m1 _ _ (show flowI ine thr lvl flow load flo ≤ flowI ine thr lvl flow load k by omega)
    have q := m1 _ _ (show flowI ine thr lvl flow load k ≤ flowI ine thr lvl flow load fhi by omega)
    omega
  · have p := m1 _ _ (show flowI ine thr lvl flow load fhi ≤ flowI ine thr lvl flow load k by omega)
    have q := m1 _ _ (show flowI ine thr lvl flow load k ≤ flowI ine thr lvl flow load flo by omega)
    omega
end
end Go.Proofs.Ytfjeopaaplnoaaa
