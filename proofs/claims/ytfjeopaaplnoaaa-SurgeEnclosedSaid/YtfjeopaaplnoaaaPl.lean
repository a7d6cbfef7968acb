import Derived.Test.YtfjeopaaplnoaaaC3
namespace Go.Proofs.Ytfjeopaaplnoaaa
open Go Go.RowKit Av
set_option linter.unusedVariables false

/-- A rounded-down quotient. -/
theorem flr_eq {n b : Int} (hb : 0 < b) (hn : -9000000000 ≤ n ∧ n ≤ 9000000000) : flr n b = n / b := by
  have h1 := Int.mul_tdiv_add_tmod n b
  have h2 := Int.mul_ediv_add_emod n b
  have h3 := Int.emod_nonneg n (by omega : b ≠ 0)
  have h4 := Int.emod_lt_of_pos n hb
  have hle : -9000000000 ≤ n.tdiv b ∧ n.tdiv b ≤ 9000000000 := by
    have := Int.natAbs_tdiv_le_natAbs n b
    omega
  unfold flr
  rw [w64 (x := n.tdiv b) (by omega) (by omega)]
  rw [Int.tdiv_eq_ediv] at h1 hle ⊢
  split
  · rename_i hm
    rw [w64 (by omega) (by omega)]
    split at h1
    · rename_i hd
      rw [if_pos hd]
      exfalso
      have : n.tmod b = n - b * (n / b + 0) := by omega
      have : b * (n / b + 0) = b * (n / b) := by rw [Int.add_zero]
      omega
    · rename_i hd
      rw [if_neg hd, Int.sign_eq_one_of_pos hb]
      omega
  · rename_i hm
    split at h1
    · rename_i hd
      rw [if_pos hd]; omega
    · rename_i hd
      exfalso
      rw [Int.sign_eq_one_of_pos hb] at h1
      have e : b * (n / b + 1) = b * (n / b) + b := by rw [Int.mul_add, Int.mul_one]
      have hnd : n % b ≠ 0 := fun h => hd (.inr (Int.dvd_of_emod_eq_zero h))
      omega

theorem ediv_bounds {n b M : Int} (hb : 1 ≤ b) (h1 : -M ≤ n) (h2 : n ≤ M) (hM : 0 ≤ M) : -M ≤ n / b ∧ n / b ≤ M := by
  constructor
  · rw [Int.le_ediv_iff_mul_le (by omega)]
    have := Int.mul_le_mul_of_nonneg_left hb hM
    have e : -M * b = -(M * b) := Int.neg_mul ..
    omega
  · exact Int.le_trans (Int.ediv_le_ediv (by omega) h2) (Int.ediv_le_self _ hM)

def lossI (c n : Int) : Int := (c * (n * max n (-n))).tdiv 1000
def headI (thr lvl flow load fr : Int) : Int := lvl + lossI fr flow + lossI thr (flow - load)
def flowI (ine thr lvl flow load fr : Int) : Int := min 1000 (max (-1000) (flow - headI thr lvl flow load fr / ine))
def lvlI (area lvl fl load : Int) : Int := lvl + (fl - load) / area

theorem loss_bound {c n : Int} (hc : 0 ≤ c ∧ c ≤ 100) (hn : -2000 ≤ n ∧ n ≤ 2000) : -(100 * (2000 * 2000)) ≤ lossI c n ∧ lossI c n ≤ 100 * (2000 * 2000) := by
  obtain ⟨e, hb⟩ := sq_eq hn
  have h2 := mul_bound (a := c) (A := 100) (by omega) hb
  unfold lossI
  have := Int.natAbs_tdiv_le_natAbs (c * (n * max n (-n))) 1000
  omega

theorem stepF_eq {ine thr lvl flow load fr : Int} (hi : 1 ≤ ine ∧ ine ≤ 1000) (ht : 0 ≤ thr ∧ thr ≤ 100) (hl : -1000000000 ≤ lvl ∧ lvl ≤ 1000000000) (hq : -1000 ≤ flow ∧ flow ≤ 1000) (hu : 0 ≤ load ∧ load ≤ 1000) (hf : 0 ≤ fr ∧ fr ≤ 100) :
    stepF ine thr lvl flow load fr = flowI ine thr lvl flow load fr := by
  obtain ⟨e1, b1⟩ := sq_eq (n := flow) (by omega)
  obtain ⟨e2, b2⟩ := sq_eq (n := flow - load) (by omega)
  have m1 := mul_bound (a := fr) (A := 100) (by omega) b1
  have m2 := mul_bound (a := thr) (A := 100) (by omega) b2
  have l1 := loss_bound (c := fr) (n := flow) hf (by omega)
  have l2 := loss_bound (c := thr) (n := flow - load) ht (by omega)
  have d1 : fr * sq flow = fr * (flow * max flow (-flow)) := by rw [e1]
  have d2 : thr * sq (flow - load) = thr * ((flow - load) * max (flow - load) (-(flow - load))) := by rw [e2]
  have hh : -9000000000 ≤ headI thr lvl flow load fr ∧ headI thr lvl flow load fr ≤ 9000000000 := by unfold headI; omega
  have hdiv := ediv_bounds (b := ine) (by omega) hh.1 hh.2 (by omega)
  unfold stepF flowI
  rw [w64 (x := flow - load) (by omega) (by omega), d1, d2, w64 (x := fr * _) (by omega) (by omega), w64 (x := thr * _) (by omega) (by omega)]
  rw [show (fr * (flow * max flow (-flow))).tdiv 1000 = lossI fr flow from rfl, show (thr * ((flow - load) * max (flow - load) (-(flow - load)))).tdiv 1000 = lossI thr (flow - load) from rfl]
  rw [w64 (x := lossI fr flow) (by omega) (by omega), w64 (x := lossI thr (flow - load)) (by omega) (by omega), w64 (x := lvl + lossI fr flow) (by omega) (by omega), w64 (x := lvl + lossI fr flow + _) (by omega) (by omega)]
  rw [show lvl + lossI fr flow + lossI thr (flow - load) = headI thr lvl flow load fr from rfl, flr_eq (by omega) (by unfold headI; omega), w64 (by omega) (by omega)]

theorem stepV_eq {area lvl fl load : Int} (ha : 1 ≤ area) (hl : -1000000000 ≤ lvl ∧ lvl ≤ 1000000000) (hq : -1000 ≤ fl ∧ fl ≤ 1000) (hu : 0 ≤ load ∧ load ≤ 1000) : stepV area lvl fl load = lvlI area lvl fl load := by
  have hb := ediv_bounds (n := fl - load) (b := area) (M := 2000) ha (by omega) (by omega) (by omega)
  unfold stepV lvlI
  rw [w64 (x := fl - load) (by omega) (by omega), flr_eq (by omega) (by omega), w64 (by omega) (by omega)]

theorem sz_succ (n : Int) : (n + 1) * max (n + 1) (-(n + 1)) - n * max n (-n) = max (2 * n + 1) (-(2 * n + 1)) := by
  by_cases h : 0 ≤ n
  · rw [show max n (-n) = n by omega, show max (n + 1) (-(n + 1)) = n + 1 by omega, Int.add_mul, Int.mul_add]; omega
  · by_cases h1 : n = -1
    · subst h1; decide
    · rw [show max n (-n) = -n by omega, show max (n + 1) (-(n + 1)) = -(n + 1) by omega, Int.mul_neg, Int.mul_neg, Int.add_mul, Int.mul_add]; omega
theorem tdiv_mono {x y : Int} (h : x ≤ y) : x.tdiv 1000 ≤ y.tdiv 1000 ∧ 1000 * (y.tdiv 1000 - x.tdiv 1000) ≤ y - x + 999 := by
  rw [Int.tdiv_eq_ediv, Int.tdiv_eq_ediv, show Int.sign 1000 = 1 from rfl]
  split <;> split <;> omega
theorem loss_succ {c n M : Int} (hc : 0 ≤ c) (h1 : -M ≤ n) (h2 : n + 1 ≤ M) : lossI c n ≤ lossI c (n + 1) ∧ 1000 * (lossI c (n + 1) - lossI c n) ≤ c * (2 * M - 1) + 999 := by
  have e := sz_succ n
  have hm : c * ((n + 1) * max (n + 1) (-(n + 1))) - c * (n * max n (-n)) = c * max (2 * n + 1) (-(2 * n + 1)) := by rw [← Int.mul_sub, e]
  have hb := Int.mul_le_mul_of_nonneg_left (show max (2 * n + 1) (-(2 * n + 1)) ≤ 2 * M - 1 by omega) hc
  have h0 : 0 ≤ c * max (2 * n + 1) (-(2 * n + 1)) := Int.mul_nonneg hc (by omega)
  obtain ⟨q1, q2⟩ := tdiv_mono (x := c * (n * max n (-n))) (y := c * ((n + 1) * max (n + 1) (-(n + 1)))) (by omega)
  unfold lossI
  exact ⟨q1, by omega⟩
theorem ediv_step {a a' b k : Int} (hb : 0 < b) (h : a' ≤ a + k * b) : a' / b ≤ a / b + k := by
  have := Int.ediv_le_ediv hb h
  rwa [Int.add_mul_ediv_right _ _ (by omega)] at this

/-- Rules that are valid, in numbers. -/
structure Valid (ine area flo fhi thr : Int) : Prop where
  ineB : 1 ≤ ine ∧ ine ≤ 1000
  areaB : 1 ≤ area ∧ area ≤ 1000
  floB : 0 ≤ flo ∧ flo ≤ 100
  fhiB : 0 ≤ fhi ∧ fhi ≤ 100
  thrB : 0 ≤ thr ∧ thr ≤ 100
  le : flo ≤ fhi
  clash : 2001 * fhi + 4001 * thr + 2000 ≤ 1000 * ine
theorem Valid.of {ine area flo fhi thr : Int} (h : rulesE ine area flo fhi thr = 0) : Valid ine area flo fhi thr := by
  obtain ⟨h1, h2, h3, h4, h5, h6, h7⟩ := rulesE_zero h
  exact ⟨h1, h2, h3, h4, h5, h6, h7⟩

section
variable {ine area flo fhi thr : Int} (V : Valid ine area flo fhi thr)
include V

theorem raw_succ {lvl flow load fr : Int} (hq : -1000 ≤ flow ∧ flow + 1 ≤ 1000) (hu : 0 ≤ load ∧ load ≤ 1000) (hf : flo ≤ fr ∧ fr ≤ fhi) :
    flow - headI thr lvl flow load fr / ine ≤ flow + 1 - headI thr lvl (flow + 1) load fr / ine := by
  obtain ⟨hi, _, hlo, hhi, ht, _, hc⟩ := V
  obtain ⟨_, a1⟩ := loss_succ (c := fr) (n := flow) (M := 1000) (by omega) (by omega) (by omega)
  obtain ⟨_, a2⟩ := loss_succ (c := thr) (n := flow - load) (M := 2000) (by omega) (by omega) (by omega)
  have e : flow - load + 1 = flow + 1 - load := by omega
  rw [e] at a2
  have hst := ediv_step (a := headI thr lvl flow load fr) (a' := headI thr lvl (flow + 1) load fr) (b := ine) (k := 1) (by omega) (by unfold headI; omega)
  omega

theorem raw_mono {lvl load fr : Int} (hu : 0 ≤ load ∧ load ≤ 1000) (hf : flo ≤ fr ∧ fr ≤ fhi) : ∀ (d : Nat) (flow : Int), -1000 ≤ flow → flow + d ≤ 1000 →
    flow - headI thr lvl flow load fr / ine ≤ flow + d - headI thr lvl (flow + d) load fr / ine
  | 0, flow, _, _ => by simp
  | d + 1, flow, h1, h2 => by
    have a := raw_mono hu hf (lvl := lvl) d flow h1 (by omega)
    have b := raw_succ V (lvl := lvl) (flow := flow + d) (by omega) hu hf
    have e : flow + ((d + 1 : Nat) : Int) = flow + d + 1 := by omega
    rw [e]
    omega

theorem flow_mono {lvl flow flow' load fr : Int} (hq : -1000 ≤ flow) (hle : flow ≤ flow') (hq' : flow' ≤ 1000) (hu : 0 ≤ load ∧ load ≤ 1000) (hf : flo ≤ fr ∧ fr ≤ fhi) :
    flowI ine thr lvl flow load fr ≤ flowI ine thr lvl flow' load fr := by
  have := raw_mono V (lvl := lvl) hu hf (flow' - flow).toNat flow hq (by omega)
  have e : flow + ((flow' - flow).toNat : Int) = flow' := by omega
  rw [e] at this
  unfold flowI
  omega

theorem flow_anti {lvl lvl' flow load fr : Int} (hle : lvl ≤ lvl') : flowI ine thr lvl' flow load fr ≤ flowI ine thr lvl flow load fr ∧ flowI ine thr lvl flow load fr - flowI ine thr lvl' flow load fr ≤ lvl' - lvl := by
  have hi := V.ineB
  have a := Int.ediv_le_ediv (a := headI thr lvl flow load fr) (b := headI thr lvl' flow load fr) (c := ine) (by omega) (by unfold headI; omega)
  have hm := Int.mul_le_mul_of_nonneg_left hi.1 (show 0 ≤ lvl' - lvl by omega)
  have b := ediv_step (a := headI thr lvl flow load fr) (a' := headI thr lvl' flow load fr) (b := ine) (k := lvl' - lvl) (by omega) (by unfold headI; omega)
  unfold flowI
  omega

theorem lvl_mono {lvl fl fl' load : Int} (hle : fl ≤ fl') : lvlI area lvl fl load ≤ lvlI area lvl fl' load := by
  have ha := V.areaB
  have := Int.ediv_le_ediv (a := fl - load) (b := fl' - load) (c := area) (by omega) (by omega)
  unfold lvlI
  omega

theorem lvl_lvl {lvl lvl' fl fl' load : Int} (hle : lvl ≤ lvl') (h : fl - fl' ≤ lvl' - lvl) : lvlI area lvl fl load ≤ lvlI area lvl' fl' load := by
  have ha := V.areaB
  have hm := Int.mul_le_mul_of_nonneg_left ha.1 (show 0 ≤ lvl' - lvl by omega)
  have := ediv_step (a := fl' - load) (a' := fl - load) (b := area) (k := lvl' - lvl) (by omega) (by omega)
  unfold lvlI
  omega

omit V in
/-- A friction between two others. -/
theorem loss_between {c c0 c1 n : Int} (h0 : c0 ≤ c) (h1 : c ≤ c1) : (lossI c0 n ≤ lossI c n ∧ lossI c n ≤ lossI c1 n) ∨ (lossI c1 n ≤ lossI c n ∧ lossI c n ≤ lossI c0 n) := by
  unfold lossI
  by_cases hn : 0 ≤ n * max n (-n)
  · left
    have a := Int.mul_le_mul_of_nonneg_right h0 hn
    have b := Int.mul_le_mul_of_nonneg_right h1 hn
    exact ⟨(tdiv_mono a).1, (tdiv_mono b).1⟩
  · right
    have a := Int.mul_le_mul_of_nonpos_right h0 (show n * max n (-n) ≤ 0 by omega)
    have b := Int.mul_le_mul_of_nonpos_right h1 (show n * max n (-n) ≤ 0 by omega)
    exact ⟨(tdiv_mono b).1, (tdiv_mono a).1⟩

theorem flow_between {lvl flow load k k0 k1 : Int} (h0 : k0 ≤ k) (h1 : k ≤ k1) :
    min (flowI ine thr lvl flow load k0) (flowI ine thr lvl flow load k1) ≤ flowI ine thr lvl flow load k ∧ flowI ine thr lvl flow load k ≤ max (flowI ine thr lvl flow load k0) (flowI ine thr lvl flow load k1) := by
  have hi := V.ineB
  have key : ∀ a b, lossI a flow ≤ lossI b flow → headI thr lvl flow load a / ine ≤ headI thr lvl flow load b / ine := fun a b h => Int.ediv_le_ediv (by omega) (by unfold headI; omega)
  unfold flowI
  rcases loss_between (n := flow) h0 h1 with ⟨a, b⟩ | ⟨a, b⟩
  · have := key _ _ a; have := key _ _ b; omega
  · have := key _ _ a; have := key _ _ b; omega
end

end Go.Proofs.Ytfjeopaaplnoaaa
