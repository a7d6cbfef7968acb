/-
  THE ENGINE (2): loops whose rounds lay variables of their own, calls in place that drop theirs, ranges over functions.
-/
import Derived.Test.YtfjeopaaplnoaaaAvU
namespace Go.Proofs.Ytfjeopaaplnoaaa.Av
open Go Go.RowKit
set_option linter.unusedSimpArgs false
set_option linter.unusedVariables false

/-! ### What names nothing beyond some numbers -/

mutual
def wfb (nb no nl : Nat) : AV → Bool
  | .sc _ => true
  | .sl (.own t _) _ xs => decide (t < no) && wfbL nb no nl xs
  | .sl _ _ xs => wfbL nb no nl xs
  | .el cs _ => wfbL nb no nl cs
  | .ptr b _ => decide (b < nb)
  | .clo _ fs cs => wfbL nb no nl fs && wfbL nb no nl cs
  | .yld l => decide (l < nl)
  | .agg cs => wfbL nb no nl cs
  | .tup cs => wfbL nb no nl cs
def wfbL (nb no nl : Nat) : List AV → Bool
  | [] => true
  | x :: l => wfb nb no nl x && wfbL nb no nl l
end

mutual
theorem wfb_wf {nb no nl : Nat} : ∀ (v : AV), wfb nb no nl v = true → Wf nb no nl v
  | .sc _, _ => .sc
  | .sl k st xs, h => by
    have hl : wfbL nb no nl xs = true := by cases k <;> simp only [wfb, Bool.and_eq_true] at h <;> first | exact h | exact h.2
    refine .sl (fun t e hk => by subst hk; simp only [wfb, Bool.and_eq_true, decide_eq_true_eq] at h; exact h.1) (fun i x j c hx hc => ?_)
    exact (wfbL_wf xs hl x (List.mem_of_getElem? hx)).cells c (List.mem_of_getElem? hc)
  | .el cs o, h => .el (fun j c hc => wfbL_wf cs (by simpa [wfb] using h) c (List.mem_of_getElem? hc))
  | .ptr _ _, h => .ptr (by simpa [wfb] using h)
  | .clo fn fs cs, h => by
    simp only [wfb, Bool.and_eq_true] at h
    exact .clo (fun i c hc => wfbL_wf fs h.1 c (List.mem_of_getElem? hc)) (fun i c hc => wfbL_wf cs h.2 c (List.mem_of_getElem? hc))
  | .yld _, h => .yld (by simpa [wfb] using h)
  | .agg cs, h => .agg (fun j c hc => wfbL_wf cs (by simpa [wfb] using h) c (List.mem_of_getElem? hc))
  | .tup cs, h => .tup (fun j c hc => wfbL_wf cs (by simpa [wfb] using h) c (List.mem_of_getElem? hc))
theorem wfbL_wf {nb no nl : Nat} : ∀ (l : List AV), wfbL nb no nl l = true → ∀ x ∈ l, Wf nb no nl x
  | [], _, x, hx => by cases hx
  | a :: l, h, x, hx => by
    simp only [wfbL, Bool.and_eq_true] at h
    rcases List.mem_cons.1 hx with hxa | hx
    · rw [hxa]; exact wfb_wf a h.1
    · exact wfbL_wf l h.2 x hx
end

theorem wfbL_map {α : Type} {nb no nl : Nat} (f : α → AV) (l : List α) (h : ∀ x, wfb nb no nl (f x) = true) : wfbL nb no nl (l.map f) = true := by
  induction l with
  | nil => rfl
  | cons a l ih => simp [wfbL, h, ih]

def wfS (S : AS) : Bool := S.box.all (wfbL S.box.length S.own.length S.lp.length) && S.lp.all (fun L => wfbL S.box.length S.own.length S.lp.length L.t)
theorem wfS_wf {S : AS} (h : wfS S = true) : WfS S := by
  simp only [wfS, Bool.and_eq_true, List.all_eq_true] at h
  exact ⟨fun b cs hb c hc => wfbL_wf cs (h.1 cs (List.mem_of_getElem? hb)) c hc, fun l L hl c hc => wfbL_wf L.t (h.2 L (List.mem_of_getElem? hl)) c hc⟩

/-! ### A value of which nothing is known any more -/

theorem raws {α : Type} {Pr : AV → Value → Prop} : ∀ (rs : List Value), (∀ r ∈ rs, ∃ v, Pr v r) → ∃ vs : List AV, vs.length = rs.length ∧ ∀ (i : Nat) v r, vs[i]? = some v → rs[i]? = some r → Pr v r
  | [], _ => ⟨[], rfl, fun i v r h => by simp at h⟩
  | r :: rs, h => by
    obtain ⟨v, hv⟩ := h r (List.mem_cons_self ..)
    obtain ⟨vs, h1, h2⟩ := raws (α := α) rs (fun r hr => h r (List.mem_cons_of_mem _ hr))
    refine ⟨v :: vs, by simp [h1], fun i u s hu hs => ?_⟩
    cases i with
    | zero => simp at hu hs; subst hu; subst hs; exact hv
    | succ i => exact h2 i u s (by simpa using hu) (by simpa using hs)

theorem VR.raw {K : KW} {v : AV} {r : Value} (h : VR K v r) : ∃ v', (∀ K', VR K' v' r) ∧ v'.single = v.single := by
  induction h with
  | @sc v h => exact ⟨.sc v, fun _ => .sc h, rfl⟩
  | sl => exact ⟨.sc _, fun _ => .sc rfl, rfl⟩
  | el => exact ⟨.sc _, fun _ => .sc rfl, rfl⟩
  | ptr => exact ⟨.sc _, fun _ => .sc rfl, rfl⟩
  | clo => exact ⟨.sc _, fun _ => .sc rfl, rfl⟩
  | yld => exact ⟨.sc _, fun _ => .sc rfl, rfl⟩
  | @agg cs rs hl hg _ ih =>
    obtain ⟨vs, h1, h2⟩ := raws (α := Unit) (Pr := fun v r => (∀ K', VR K' v r) ∧ v.single = true) rs.toList (fun r hr => by
      obtain ⟨i, hi, rfl⟩ := List.mem_iff_getElem.1 hr
      have hi' : i < cs.length := by rw [hl]; simpa using hi
      obtain ⟨v', q1, q2⟩ := ih i _ _ (List.getElem?_eq_getElem hi') (by rw [← Array.getElem?_toList, List.getElem?_eq_getElem hi])
      exact ⟨v', q1, q2.trans (hg i _ (List.getElem?_eq_getElem hi'))⟩)
    have hr : ∀ (i : Nat) c, vs[i]? = some c → ∃ r, rs.toList[i]? = some r := fun i c hc => ⟨_, List.getElem?_eq_getElem (by rw [← h1]; exact (List.getElem?_eq_some_iff.1 hc).1)⟩
    exact ⟨.agg vs, fun K' => .agg (by simpa using h1) (fun i c hc => let ⟨r, hr⟩ := hr i c hc; (h2 i c r hc hr).2) (fun i c r hc hr => (h2 i c r hc (by simpa using hr)).1 K'), rfl⟩
  | @tup cs rs hl _ ih =>
    obtain ⟨vs, h1, h2⟩ := raws (α := Unit) (Pr := fun v r => ∀ K', VR K' v r) rs.toList (fun r hr => by
      obtain ⟨i, hi, rfl⟩ := List.mem_iff_getElem.1 hr
      have hi' : i < cs.length := by rw [hl]; simpa using hi
      obtain ⟨v', q1, q2⟩ := ih i _ _ (List.getElem?_eq_getElem hi') (by rw [← Array.getElem?_toList, List.getElem?_eq_getElem hi])
      exact ⟨v', q1⟩)
    exact ⟨.tup vs, fun K' => .tup (by simpa using h1) (fun i c r hc hr => h2 i c r hc (by simpa using hr) K'), rfl⟩

theorem facts_mem {st : St} : ∀ {l : List (Nat × AV)}, Facts st l → ∀ q ∈ l, st q.1 = q.2
  | (k, v) :: l, h, q, hq => by
    rcases List.mem_cons.1 hq with rfl | hq
    · exact h.1
    · exact facts_mem h.2 q hq
theorem facts_of {st : St} : ∀ {l : List (Nat × AV)}, (∀ q ∈ l, st q.1 = q.2) → Facts st l
  | [], _ => trivial
  | q :: l, h => ⟨h q (List.mem_cons_self ..), facts_of fun q hq => h q (List.mem_cons_of_mem _ hq)⟩

theorem TR.forget {K : KW} {nb no nl : Nat} {t : List AV} {tmps : Array Value} (h : TR K t tmps) {l : List (Nat × AV)} (hf : Facts (lk t) l) (hw : ∀ q ∈ l, Wf nb no nl q.2) :
    ∃ t', t'.length = t.length ∧ TR (K.cut nb no nl) t' tmps ∧ Facts (lk t') l := by
  have key : ∀ i, i < t.length → ∃ v', (∀ r, tmps[i]? = some r → VR (K.cut nb no nl) v' r) ∧ ∀ q ∈ l, q.1 = i → v' = q.2 := by
    intro i hi
    have hr := Array.getElem?_eq_getElem (show i < tmps.size by rw [← h.1]; exact hi)
    have hv := h.2 i _ _ (List.getElem?_eq_getElem hi) hr
    by_cases hm : ∃ q ∈ l, q.1 = i
    · obtain ⟨q, hq, rfl⟩ := hm
      have e : t[q.1] = q.2 := by
        have := facts_mem hf q hq
        simpa [lk, List.getD_eq_getElem?_getD, List.getElem?_eq_getElem hi] using this
      refine ⟨q.2, fun r hr' => ?_, fun q' hq' e' => ?_⟩
      · rw [hr] at hr'; cases hr'
        rw [e] at hv
        exact hv.cutK (hw q hq)
      · have h1 := facts_mem hf q hq
        have h2 := facts_mem hf q' hq'
        rw [e'] at h2
        exact h1.symm.trans h2
    · obtain ⟨v', q1, _⟩ := hv.raw
      exact ⟨v', fun r hr' => by rw [hr] at hr'; cases hr'; exact q1 _, fun q hq e => absurd ⟨q, hq, e⟩ hm⟩
  let f (i : Nat) : AV := if hi : i < t.length then Classical.choose (key i hi) else .tup []
  have hf' : ∀ i (hi : i < t.length), (∀ r, tmps[i]? = some r → VR (K.cut nb no nl) (f i) r) ∧ ∀ q ∈ l, q.1 = i → f i = q.2 := by
    intro i hi
    have : f i = Classical.choose (key i hi) := by simp [f, hi]
    rw [this]
    exact Classical.choose_spec (key i hi)
  refine ⟨(List.range t.length).map f, by simp, ⟨by simpa using h.1, fun i v r hv hr => ?_⟩, facts_of fun q hq => ?_⟩
  · have hi : i < t.length := by simpa using (List.getElem?_eq_some_iff.1 hv).1
    simp only [List.getElem?_map, List.getElem?_range hi, Option.map_some, Option.some.injEq] at hv
    subst hv
    exact (hf' i hi).1 r hr
  · by_cases hi : q.1 < t.length
    · simp only [lk, List.getD_eq_getElem?_getD, List.getElem?_map, List.getElem?_range hi, Option.map_some, Option.getD_some]
      exact (hf' q.1 hi).2 q hq rfl
    · have h1 := facts_mem hf q hq
      simp only [lk, List.getD_eq_getElem?_getD, List.getElem?_eq_none (Nat.le_of_not_lt hi), Option.getD_none] at h1
      simp only [lk, List.getD_eq_getElem?_getD]
      rw [List.getElem?_eq_none (by simp; omega)]
      exact h1

/-! ### A loop -/

structure EndG {D : Type} (p : D → Prop) (Sf : D → AS) (fl : D → List (Nat × AV)) (st : St) (S : AS) : Prop where
  out : ∃ d G, p d ∧ S = (Sf d).app G ∧ Facts st (fl d)

section
variable {P : Program} {n : Nat}

theorem AWlF.whileW {c : Code} {Q : Exit → St → AS → Prop} {st : St} {S : AS} {D : Type} (p : D → Prop) (μ : D → Nat) (Sf : D → AS) (fl : D → List (Nat × AV))
    (hlen : ∀ d d', (Sf d).box.length = (Sf d').box.length ∧ (Sf d).own.length = (Sf d').own.length ∧ (Sf d).lp.length = (Sf d').lp.length)
    (hwS : ∀ d, p d → WfS (Sf d)) (hwf : ∀ d, p d → ∀ q ∈ fl d, Wf (Sf d).box.length (Sf d).own.length (Sf d).lp.length q.2)
    (d0 : D) (hp0 : p d0) (hS : S = Sf d0) (hf0 : Facts st (fl d0))
    (step : ∀ d st, p d → Facts st (fl d) → RunC P n c (thenF (EndG (fun d' => p d' ∧ μ d' < μ d) Sf fl) Q) st (Sf d)) : AWlF P n c Q st S := by
  refine ⟨fun hm hok hn => ?_⟩
  have key : ∀ (N : Nat) (d : D), μ d < N → p d → ∀ (rd : Option Nat) (B : Nat) (K0 : KW) (w0 : World) (K : KW) (a : Act) (w : World) (t : List AV), t.length = n → TR K t a.tmps → RR K (Sf d) w → RoundOk rd w → Marks B a.defers w → Ext K0 w0 K w →
      (K0.box.length ≤ (Sf d).box.length ∧ K0.own.length ≤ (Sf d).own.length ∧ K0.lp.length ≤ (Sf d).lp.length) → Facts (lk t) (fl d) → ∀ (b : Frame) (k : List Item) (cs : List Frame), b.roundOf = rd →
      ∃ e a' w', PostR (QL n Q) B K0 w0 e a' w' ∧ ArrivesIn (Machine.fenced P (FR rd)) P (lone (b.atR a (.code c :: .inLoop c :: k)) cs w) b k cs e a' w' := by
    intro N
    induction N with
    | zero => intro d h; omega
    | succ N ih =>
      intro d hd hp rd B K0 w0 K a w t hl h1 h2 h3 h4 h5 h6 hf b k cs hro
      obtain ⟨e, a', w', ⟨t', S', K', hq, k1, k2, k3, k4⟩, harr⟩ := (step d (lk t) hp hf).out hm hok hn t hl rfl rd B K a w h1 h2 h3 h4 b (.inLoop c :: k) cs hro trivial (FR_room rd _)
      have hx := h5.trans k3
      cases e with
      | normal =>
        obtain ⟨hl', ⟨d', G, ⟨hp', hμ⟩, rfl, hf'⟩⟩ := hq
        obtain ⟨n1, n2, n3⟩ := hlen d' d
        have hws := hwS d' hp'
        obtain ⟨t2, q1, q2, q3⟩ := k1.forget (nb := (Sf d').box.length) (no := (Sf d').own.length) (nl := (Sf d').lp.length) hf' (fun q hq => hwf d' hp' q hq)
        have hcut := hx.cutE (nb := (Sf d').box.length) (no := (Sf d').own.length) (nl := (Sf d').lp.length) (by omega) (by omega) (by omega)
        obtain ⟨e2, a2, w2, hq2, harr2⟩ := ih d' (by omega) hp' rd B K0 w0 _ a' w' t2 (q1.trans hl') q2 (k2.cutR hws) (h3.ext k3) k4 hcut (by omega) q3 b k cs hro
        exact ⟨e2, a2, w2, hq2, .of_steps (StepsIn.trans harr (.one (fenced_calm (n := 0) (F := FR rd) trivial (FR_room rd _) rfl) stepR_inLoop)) harr2⟩
      | exit id => exact ⟨_, a', w', ⟨t', S', K', hq, k1, k2, hx, k4⟩, .pass (x := .inLoop c) rfl (fun _ _ => .inl (by simp)) harr⟩
      | goto l => exact ⟨_, a', w', ⟨t', S', K', hq, k1, k2, hx, k4⟩, .pass (x := .inLoop c) rfl (fun _ _ => .inl (by simp)) harr⟩
      | ret => exact ⟨_, a', w', ⟨t', S', K', hq, k1, k2, hx, k4⟩, .pass (x := .inLoop c) rfl (fun _ _ => .inl (by simp)) harr⟩
      | panic ch => exact ⟨_, a', w', ⟨t', S', K', hq, k1, k2, hx, k4⟩, .pass (x := .inLoop c) rfl (fun _ _ => .inl (by simp)) harr⟩
      | outgrown => exact ⟨_, a', w', ⟨t', S', K', hq, k1, k2, hx, k4⟩, .pass (x := .inLoop c) rfl (fun _ _ => .inl (by simp)) harr⟩
  intro t hl ht rd B K a w h1 h2 h3 h4 b k cs hro
  subst hS; subst ht
  exact key (μ d0 + 1) d0 (Nat.lt_succ_self _) hp0 rd B K w K a w t hl h1 h2 h3 h4 (.refl _ _) ⟨by rw [h2.nbox]; exact Nat.le_refl _, by rw [h2.nown]; exact Nat.le_refl _, by rw [h2.nlp]; exact Nat.le_refl _⟩ hf0 b k cs hro

theorem AWlF.while {c : Code} {Q : Exit → St → AS → Prop} {st : St} {S : AS} {D : Type} (p : D → Prop) (μ : D → Nat) (Sf : D → AS) (fl : D → List (Nat × AV))
    (hlen : ∀ d d', (Sf d).box.length = (Sf d').box.length ∧ (Sf d).own.length = (Sf d').own.length ∧ (Sf d).lp.length = (Sf d').lp.length)
    (hwS : ∀ d, p d → wfS (Sf d) = true) (hwf : ∀ d, p d → ∀ q ∈ fl d, wfb (Sf d).box.length (Sf d).own.length (Sf d).lp.length q.2 = true)
    (d0 : D) (hp0 : p d0) (hS : S = Sf d0) (hf0 : Facts st (fl d0))
    (step : ∀ d st, p d → Facts st (fl d) → RunC P n c (thenF (EndG (fun d' => p d' ∧ μ d' < μ d) Sf fl) Q) st (Sf d)) : AWlF P n c Q st S :=
  AWlF.whileW p μ Sf fl hlen (fun d hp => wfS_wf (hwS d hp)) (fun d hp q hq => wfb_wf _ (hwf d hp q hq)) d0 hp0 hS hf0 step

/-! ### A call in place that drops what it has laid -/

structure LeavW (S : AS) (x : Option AV) (S2 : AS) (Kp : AV → AS → Prop) : Prop where
  out : ∃ v2 v S1, x = some v2 ∧ VLe v2 v ∧ Leaves S S2 S1 v ∧ Kp v S1

theorem LeavW.same {S S2 : AS} {x : Option AV} {Kp : AV → AS → Prop} (v : AV) (G : AS) (h : x = some v) (hG : S2 = S.app G) (hv : wfb S.box.length S.own.length S.lp.length v = true) (k : Kp v S) : LeavW S x S2 Kp :=
  ⟨v, v, S, h, VLe.refl _, hG ▸ Leaves.same G (wfb_wf _ hv), k⟩
theorem LeavW.turn {S S2 : AS} {x : Option AV} {Kp : AV → AS → Prop} (v : AV) (S1 G : AS) (h : x = some v) (hG : S2 = S1.app G) (hv : wfb S1.box.length S1.own.length S1.lp.length v = true)
    (hn : S.box.length ≤ S1.box.length ∧ S.own.length ≤ S1.own.length ∧ S.lp.length ≤ S1.lp.length) (hw : wfS S1 = true) (k : Kp v S1) : LeavW S x S2 Kp :=
  ⟨v, v, S1, h, VLe.refl _, ⟨⟨G, hG⟩, hn.1, hn.2.1, hn.2.2, wfb_wf _ hv, fun _ => wfS_wf hw⟩, k⟩

theorem ACallH.inlD (hm : P.follows .mixedOrders = true) {f : FuncId} {fn : Func} {c : Code} {rs : Array ResultVar} {args : List AV} {S : AS} {Kp : AV → AS → Prop} (hf : P.funcs[f]? = some fn) (hb : fn.body = some c) (hn : fn.ntmps = n) (hr : fn.results = rs) (hc : callable P f = true) (hok : codeR P c = true) (hN : codeN n c = true)
    (hle : args.length ≤ n) (h : RunC P n c (OutF fun t' S2 => LeavW S (aresF P t' S2 rs.toList) S2 Kp) (ini args) S) : ACallH P f args S Kp := by
  subst hn; subst hr
  refine ⟨ACall.of_body hf hb hc ((h.out hm hok hN (args ++ List.replicate (fn.ntmps - args.length) (.tup [])) (by simp; omega) (by rw [lk_ini])).mono ?_)⟩
  rintro e t' S' ⟨hl, hq⟩
  cases e with
  | normal => obtain ⟨v2, v, S1, h1, h2, h3, h4⟩ := hq; exact ⟨v2, v, S1, by rw [aresF_lk]; exact h1, h2, h3, h4⟩
  | ret => obtain ⟨v2, v, S1, h1, h2, h3, h4⟩ := hq; exact ⟨v2, v, S1, by rw [aresF_lk]; exact h1, h2, h3, h4⟩
  | _ => exact hq.elim

end
end Go.Proofs.Ytfjeopaaplnoaaa.Av
