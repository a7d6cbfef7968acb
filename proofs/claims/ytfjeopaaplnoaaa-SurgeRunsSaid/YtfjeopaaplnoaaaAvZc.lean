/-
  THE GUIDED WALK (4): contracts of functions and of loops.
-/
import Derived.Test.YtfjeopaaplnoaaaAvZb
namespace Go.Proofs.Ytfjeopaaplnoaaa.Av
open Go Go.RowKit
set_option linter.unusedSimpArgs false
set_option linter.unusedVariables false

theorem VLe.sl {k : SK} {st : Nat} {xs ys : List AV} (h : xs = ys) : VLe (.sl k st xs) (.sl .ro st ys) := h ▸ VLe.ro k st xs
def VLeL : List AV → List AV → Prop
  | [], [] => True
  | x :: xs, y :: ys => VLe x y ∧ VLeL xs ys
  | _, _ => False
theorem VLeL.get : ∀ {xs ys : List AV}, VLeL xs ys → xs.length = ys.length ∧ ∀ (i : Nat) (x y : AV), xs[i]? = some x → ys[i]? = some y → VLe x y
  | [], [], _ => ⟨rfl, fun i x y h => by simp at h⟩
  | a :: xs, b :: ys, h => by
    obtain ⟨h1, h2⟩ := VLeL.get h.2
    refine ⟨by simp [h1], fun i x y hx hy => ?_⟩
    cases i with
    | zero => simp at hx hy; subst hx; subst hy; exact h.1
    | succ i => exact h2 i x y (by simpa using hx) (by simpa using hy)
  | [], _ :: _, h => h.elim
  | _ :: _, [], h => h.elim
theorem VLe.tupL {xs ys : List AV} (h : VLeL xs ys) : VLe (.tup xs) (.tup ys) := VLe.tup h.get.1 h.get.2
theorem VLe.aggL {xs ys : List AV} (h : VLeL xs ys) (hs : ys.all (·.single) = true) : VLe (.agg xs) (.agg ys) :=
  VLe.agg h.get.1 (fun i v hv => by simp only [List.all_eq_true] at hs; exact hs v (List.mem_of_getElem? hv)) h.get.2
theorem single_cells {x : AV} (h : x.single = true) : x.cells = [x] := by
  cases x <;> first | rfl | cases h
/-- Slices of slices. -/
theorem VLe.slE {k : SK} {xs ys : List AV} (hl : xs.length = ys.length) (hx : ∀ x ∈ xs, x.single = true) (hy : ∀ y ∈ ys, y.single = true) (h : ∀ (i : Nat) (x y : AV), xs[i]? = some x → ys[i]? = some y → VLe x y) : VLe (.sl k 1 xs) (.sl .ro 1 ys) := by
  intro K r hr
  cases hr with
  | @sl _ _ _ A n cap rc hs hn hc hl' h1 hg h2 hk =>
    have key : ∀ (i : Nat) (y : AV) (j : Nat) (c : AV), ys[i]? = some y → y.cells[j]? = some c → ∃ x, xs[i]? = some x ∧ c = y ∧ j = 0 := by
      intro i y j c hyi hc
      have hi : i < xs.length := by rw [hl]; exact (List.getElem?_eq_some_iff.1 hyi).1
      rw [single_cells (hy y (List.mem_of_getElem? hyi))] at hc
      have hj : j = 0 := by
        have := (List.getElem?_eq_some_iff.1 hc).1
        simp at this; exact this
      subst hj
      simp at hc
      exact ⟨xs[i], List.getElem?_eq_getElem hi, hc.symm, rfl⟩
    have hxc : ∀ (i : Nat) (x : AV), xs[i]? = some x → x.cells[0]? = some x := fun i x hi => by rw [single_cells (hx x (List.mem_of_getElem? hi))]; rfl
    refine .sl rc hs (hl ▸ hn) hc (fun y hyy => by rw [single_cells (hy y hyy)]; rfl) (fun i y j c hyi hc => ?_) (fun i y j c hyi hc => ?_) (fun i y j c hyi hc => ?_) trivial
    · obtain ⟨x, hxi, _, rfl⟩ := key i y j c hyi hc
      exact h1 i x 0 x hxi (hxc i x hxi)
    · obtain ⟨x, hxi, rfl, rfl⟩ := key i y j c hyi hc
      exact hy _ (List.mem_of_getElem? hyi)
    · obtain ⟨x, hxi, rfl, rfl⟩ := key i y j c hyi hc
      exact h i x _ hxi hyi K _ (h2 i x 0 x hxi (hxc i x hxi))

theorem of_eq {A B : Prop} (e : A = B) (b : B) : A := e ▸ b

/-- The end of a function: what it yields is this. -/
structure FinV (u v : AV) : Prop where
  out : VLe u v
def gend (P : Program) (fn : Func) (v : AV) : KC := gret P fn.results.toList (fun u _ _ => FinV u v)
/-- The end of a function that turns the state. -/
def gfin2 (P : Program) (fn : Func) (E : AV → AS → Prop) : KC := gret P fn.results.toList (fun u S _ => E u S)
/-- The end of a loop's round, and the ways out. -/
def grnd (ks ks' : List Nat) (Nx : AS → List (Nat × AV) → Prop) (Dn : Exit → AS → List (Nat × AV) → Prop) : KC
  | .normal, st, S, _ => Nx S (keysOf ks st)
  | e, st, S, _ => Dn e S (keysOf ks' st)
/-- The ways out that are meant. -/
def AltD (Dn : Exit → AS → List (Nat × AV) → Prop) : List Alt → Prop
  | [] => True
  | a :: al => (a.c → ∀ S fs, (∀ q ∈ a.post, q ∈ fs) → (∀ S1, a.S = some S1 → S = S1) → Dn a.e S fs) ∧ AltD Dn al
/-- The same, where what was laid besides is dropped. -/
def AltG (Dn : Exit → AS → List (Nat × AV) → Prop) : List Alt → Prop
  | [] => True
  | a :: al => (a.c → ∀ S fs, (∀ q ∈ a.post, q ∈ fs) → (∀ S1, a.S = some S1 → ∃ G, S = S1.app G) → Dn a.e S fs) ∧ AltG Dn al

theorem altD_mk {al : List Alt} {Dn : Exit → AS → List (Nat × AV) → Prop} (h : ∀ a ∈ al, a.c → ∀ S fs, (∀ q ∈ a.post, q ∈ fs) → (∀ S1, a.S = some S1 → S = S1) → Dn a.e S fs) : AltD Dn al := by
  induction al with
  | nil => trivial
  | cons a al ih => exact ⟨h a (List.mem_cons_self ..), ih fun b hb => h b (List.mem_cons_of_mem _ hb)⟩
theorem altG_mk {al : List Alt} {Dn : Exit → AS → List (Nat × AV) → Prop} (h : ∀ a ∈ al, a.c → ∀ S fs, (∀ q ∈ a.post, q ∈ fs) → (∀ S1, a.S = some S1 → ∃ G, S = S1.app G) → Dn a.e S fs) : AltG Dn al := by
  induction al with
  | nil => trivial
  | cons a al ih => exact ⟨h a (List.mem_cons_self ..), ih fun b hb => h b (List.mem_cons_of_mem _ hb)⟩
theorem facts_sub {st : St} {ks : List Nat} {l : List (Nat × AV)} (h : ∀ q ∈ l, q ∈ keysOf ks st) : Facts st l := by
  refine facts_of fun q hq => ?_
  obtain ⟨k, hk, rfl⟩ := List.mem_map.1 (h q hq)
  rfl

def gF (P : Program) (T : FT) (m : Nat) (fn : Func) (args : List AV) (S : AS) (tr : Tr) (K : KC) : Prop := gC P T m fn.ntmps (bodyF fn) (ini args) S tr K

section
variable {P : Program} {T : FT} {m n : Nat}

theorem DCall.walk (hm : P.follows .mixedOrders = true) (hT : ftOk P T) {f : FuncId} {fn : Func} {args : List AV} {v : AV} {tr : Tr} {Pf : Prop} (hF : FnOk P f fn) (ha : closedL args = true) (hv : closedB v = true) (hle : Nat.ble args.length fn.ntmps = true)
    (e : gF P T m fn args ⟨[], [], []⟩ tr (gend P fn v) = Pf) (p : Pf) : DCall P f args v := by
  have h : gF P T m fn args ⟨[], [], []⟩ tr (gend P fn v) := of_eq e p
  have hle := Nat.le_of_ble_eq_true hle
  refine ACall.frame (ACall.of_body_all hF.get hF.body hF.call (((gC_sound2 hm hT _ _ _ _ _ _ _ (OutF fun t' S2 => ∃ u, aresF P t' S2 fn.results.toList = some u ∧ FinV u v) ?_ h).1 hF.code (args ++ List.replicate (fn.ntmps - args.length) (.tup [])) (by simp; omega) (by rw [lk_ini])).mono ?_)) (closedL_wf _ ha) (closedB_wf _ hv)
  · intro e st S tr h
    unfold gend gret at h
    split at h
    · split at h
      · rename_i u hu; exact ⟨u, hu, h⟩
      · exact h.elim
    · split at h
      · rename_i u hu; exact ⟨u, hu, h⟩
      · exact h.elim
    · exact h.elim
  · rintro e t' S' ⟨hl, hq⟩
    cases e with
    | normal => obtain ⟨u, h1, h2⟩ := hq; exact ⟨u, v, by rw [aresF_lk]; exact h1, h2.out, rfl⟩
    | ret => obtain ⟨u, h1, h2⟩ := hq; exact ⟨u, v, by rw [aresF_lk]; exact h1, h2.out, rfl⟩
    | _ => exact hq.elim

/-! ### Loops -/

theorem LoopC.by {c : Code} {pre : List (Nat × AV)} {S : AS} {al : List Alt} (hm : P.follows .mixedOrders = true) (hT : ftOk P T) {D : Type} (p : D → Prop) (μ : D → Nat) (Sf : D → AS) (fl : D → List (Nat × AV)) (ks ks' : List Nat)
    (hlen : ∀ d, (Sf d).box.length = S.box.length ∧ (Sf d).own.length = S.own.length ∧ (Sf d).lp.length = S.lp.length) (hlen1 : ∀ a ∈ al, ∀ S1, a.S = some S1 → S1.box.length = S.box.length ∧ S1.own.length = S.own.length ∧ S1.lp.length = S.lp.length)
    (hwS : ∀ d, p d → WfS S → WfS (Sf d)) (hwf : ∀ d, p d → ∀ q ∈ fl d, Wf S.box.length S.own.length S.lp.length q.2) (hwS1 : ∀ a ∈ al, a.c → ∀ S1, a.S = some S1 → WfS S → WfS S1) (hwf1 : ∀ a ∈ al, a.c → ∀ q ∈ a.post, Wf S.box.length S.own.length S.lp.length q.2)
    (d0 : D) (hp0 : p d0) (hS : S = Sf d0) (hf0 : pre = fl d0)
    (step : ∀ (Nx : AS → List (Nat × AV) → Prop) (Dn : Exit → AS → List (Nat × AV) → Prop) (d : D), p d → (∀ d' G, p d' → μ d' < μ d → Nx ((Sf d').app G) (fl d')) → AltG Dn al → ∀ st, ∃ m tr, gC P T m n c (upds st (fl d)) (Sf d) tr (grnd ks ks' Nx Dn)) :
    LoopC P n c pre S al := by
  refine ⟨fun _ hn => ?_⟩
  have key : ∀ (N : Nat) (d : D), μ d < N → p d → ∀ (rd : Option Nat) (B : Nat) (K0 : KW) (w0 : World) (K : KW) (a : Act) (w : World) (t : List AV), t.length = n → TR K t a.tmps → RR K (Sf d) w → RoundOk rd w → Marks B a.defers w → Ext K0 w0 K w → WfS S →
      (K0.box.length ≤ S.box.length ∧ K0.own.length ≤ S.own.length ∧ K0.lp.length ≤ S.lp.length) → Facts (lk t) (fl d) → ∀ (b : Frame) (k : List Item) (cs : List Frame), b.roundOf = rd →
      ∃ e' a' w', PostR (QL n (AltQ al)) B K0 w0 e' a' w' ∧ ArrivesIn (Machine.fenced P (FR rd)) P (lone (b.atR a (.code c :: .inLoop c :: k)) cs w) b k cs e' a' w' := by
    intro N
    induction N with
    | zero => intro d h; omega
    | succ N ih =>
      intro d hd hp rd B K0 w0 K a w t hl h1 h2 h3 h4 h5 hW h6 hf b k cs hro
      have hst := step (fun S' fs => ∃ d' G, p d' ∧ μ d' < μ d ∧ S' = (Sf d').app G ∧ fs = fl d') (fun e' S' fs => ∃ a ∈ al, a.c ∧ e' = a.e ∧ (∀ q ∈ a.post, q ∈ fs) ∧ ∀ S1, a.S = some S1 → ∃ G, S' = S1.app G) d hp (fun d' G q1 q2 => ⟨d', G, q1, q2, rfl, rfl⟩) (altG_mk fun a ha hc S fs q1 q2 => ⟨a, ha, hc, rfl, q1, q2⟩) (lk t)
      obtain ⟨m, tr, hst⟩ := hst
      rw [upds_of hf] at hst
      have hrun := (gC_sound2 hm hT m n c (lk t) (Sf d) tr _ (fun e' st' S' => match e' with
        | .normal => ∃ d' G, p d' ∧ μ d' < μ d ∧ S' = (Sf d').app G ∧ Facts st' (fl d')
        | e' => ∃ a ∈ al, a.c ∧ e' = a.e ∧ Facts st' a.post ∧ ∀ S1, a.S = some S1 → ∃ G, S' = S1.app G) (by
          intro e' st' S' tr h
          unfold grnd at h
          cases e' with
          | normal => obtain ⟨d', G, q1, q2, q3, q4⟩ := h; exact ⟨d', G, q1, q2, q3, q4 ▸ facts_keys _ _⟩
          | exit id => obtain ⟨a, q1, q2, q3, q4, q5⟩ := h; exact ⟨a, q1, q2, q3, facts_sub q4, q5⟩
          | goto id => obtain ⟨a, q1, q2, q3, q4, q5⟩ := h; exact ⟨a, q1, q2, q3, facts_sub q4, q5⟩
          | ret => obtain ⟨a, q1, q2, q3, q4, q5⟩ := h; exact ⟨a, q1, q2, q3, facts_sub q4, q5⟩
          | panic id => obtain ⟨a, q1, q2, q3, q4, q5⟩ := h; exact ⟨a, q1, q2, q3, facts_sub q4, q5⟩
          | outgrown => obtain ⟨a, q1, q2, q3, q4, q5⟩ := h; exact ⟨a, q1, q2, q3, facts_sub q4, q5⟩) hst).1 hn t hl rfl
      obtain ⟨e', a', w', ⟨t', S', K', hq, k1, k2, k3, k4⟩, harr⟩ := hrun rd B K a w h1 h2 h3 h4 b (.inLoop c :: k) cs hro trivial (FR_room rd _)
      have hx := h5.trans k3
      have out : e' ≠ .normal → (∃ a ∈ al, a.c ∧ e' = a.e ∧ Facts (lk t') a.post ∧ ∀ S1, a.S = some S1 → ∃ G, S' = S1.app G) → t'.length = n → ∃ e' a' w', PostR (QL n (AltQ al)) B K0 w0 e' a' w' ∧ ArrivesIn (Machine.fenced P (FR rd)) P (lone (b.atR a (.code c :: .inLoop c :: k)) cs w) b k cs e' a' w' := by
        intro hne hq' hl'
        have harr' := ArrivesIn.pass (x := .inLoop c) rfl (fun _ _ => .inl hne) harr
        obtain ⟨a0, ha, hc, rfl, hfp, hS1⟩ := hq'
        cases hs : a0.S with
        | none => exact ⟨_, a', w', ⟨t', S', K', ⟨hl', a0, ha, hc, rfl, hfp, fun S1 h => by rw [hs] at h; cases h⟩, k1, k2, hx, k4⟩, harr'⟩
        | some S1 =>
          obtain ⟨G, rfl⟩ := hS1 S1 hs
          obtain ⟨n1, n2, n3⟩ := hlen1 a0 ha S1 hs
          obtain ⟨t2, q1, q2, q3⟩ := k1.forget (nb := S1.box.length) (no := S1.own.length) (nl := S1.lp.length) hfp (fun q hq => by rw [n1, n2, n3]; exact hwf1 a0 ha hc q hq)
          have hcut := hx.cutE (nb := S1.box.length) (no := S1.own.length) (nl := S1.lp.length) (by omega) (by omega) (by omega)
          exact ⟨_, a', w', ⟨t2, S1, _, ⟨q1.trans hl', a0, ha, hc, rfl, q3, fun S2 h => by rw [hs] at h; cases h; rfl⟩, q2, k2.cutR (hwS1 a0 ha hc S1 hs hW), hcut, k4⟩, harr'⟩
      cases e' with
      | normal =>
        obtain ⟨hl', d', G, hp', hμ, rfl, hf'⟩ := hq
        obtain ⟨n1, n2, n3⟩ := hlen d'
        have hws := hwS d' hp' hW
        obtain ⟨t2, q1, q2, q3⟩ := k1.forget (nb := (Sf d').box.length) (no := (Sf d').own.length) (nl := (Sf d').lp.length) hf' (fun q hq => by rw [n1, n2, n3]; exact hwf d' hp' q hq)
        have hcut := hx.cutE (nb := (Sf d').box.length) (no := (Sf d').own.length) (nl := (Sf d').lp.length) (by omega) (by omega) (by omega)
        obtain ⟨e2, a2, w2, hq2, harr2⟩ := ih d' (by omega) hp' rd B K0 w0 _ a' w' t2 (q1.trans hl') q2 (k2.cutR hws) (h3.ext k3) k4 hcut hW h6 q3 b k cs hro
        exact ⟨e2, a2, w2, hq2, .of_steps (StepsIn.trans harr (.one (fenced_calm (n := 0) (F := FR rd) trivial (FR_room rd _) rfl) stepR_inLoop)) harr2⟩
      | exit id => exact out (by simp) hq.2 hq.1
      | goto l => exact out (by simp) hq.2 hq.1
      | ret => exact out (by simp) hq.2 hq.1
      | panic ch => exact out (by simp) hq.2 hq.1
      | outgrown => exact out (by simp) hq.2 hq.1
  intro t hl hf rd B K a w h1 h2 h3 h4 b k cs hro
  subst hf0
  have hW : WfS S := h2.wfS
  have h2' : RR K (Sf d0) w := hS ▸ h2
  exact key (μ d0 + 1) d0 (Nat.lt_succ_self _) hp0 rd B K w K a w t hl h1 h2' h3 h4 (.refl _ _) hW ⟨by rw [h2.nbox]; exact Nat.le_refl _, by rw [h2.nown]; exact Nat.le_refl _, by rw [h2.nlp]; exact Nat.le_refl _⟩ hf b k cs hro

/-- A loop whose rounds leave nothing behind: no question of what is named. -/
theorem LoopC.st {c : Code} {pre : List (Nat × AV)} {S : AS} {al : List Alt} (hm : P.follows .mixedOrders = true) (hT : ftOk P T) {D : Type} (p : D → Prop) (μ : D → Nat) (Sf : D → AS) (fl : D → List (Nat × AV)) (ks ks' : List Nat)
    (d0 : D) (hp0 : p d0) (hS : S = Sf d0) (hf0 : pre = fl d0)
    (step : ∀ (Nx : AS → List (Nat × AV) → Prop) (Dn : Exit → AS → List (Nat × AV) → Prop) (d : D), p d → (∀ d', p d' → μ d' < μ d → Nx (Sf d') (fl d')) → AltD Dn al → ∀ st, ∃ m tr, gC P T m n c (upds st (fl d)) (Sf d) tr (grnd ks ks' Nx Dn)) :
    LoopC P n c pre S al := by
  refine ⟨fun _ hn => ?_⟩
  have key : ∀ (N : Nat) (d : D), μ d < N → p d → ∀ t, t.length = n → Facts (lk t) (fl d) → AWl P c (QL n (AltQ al)) t (Sf d) := by
    intro N
    induction N with
    | zero => intro d h; omega
    | succ N ih =>
      intro d hd hp t hl hf
      obtain ⟨m, tr, hst⟩ := step (fun S' fs => ∃ d', p d' ∧ μ d' < μ d ∧ S' = Sf d' ∧ fs = fl d') (fun e' S' fs => ∃ a ∈ al, a.c ∧ e' = a.e ∧ (∀ q ∈ a.post, q ∈ fs) ∧ ∀ S1, a.S = some S1 → S' = S1) d hp (fun d' q1 q2 => ⟨d', q1, q2, rfl, rfl⟩) (altD_mk fun a ha hc S fs q1 q2 => ⟨a, ha, hc, rfl, q1, q2⟩) (lk t)
      rw [upds_of hf] at hst
      have hrun := (gC_sound2 hm hT m n c (lk t) (Sf d) tr _ (fun e' st' S' => match e' with
        | .normal => ∃ d', p d' ∧ μ d' < μ d ∧ S' = Sf d' ∧ Facts st' (fl d')
        | e' => AltQ al e' st' S') (by
          intro e' st' S' tr h
          unfold grnd at h
          cases e' with
          | normal => obtain ⟨d', q1, q2, q3, q4⟩ := h; exact ⟨d', q1, q2, q3, q4 ▸ facts_keys _ _⟩
          | exit id => obtain ⟨a, q1, q2, q3, q4, q5⟩ := h; exact ⟨a, q1, q2, q3, facts_sub q4, q5⟩
          | goto id => obtain ⟨a, q1, q2, q3, q4, q5⟩ := h; exact ⟨a, q1, q2, q3, facts_sub q4, q5⟩
          | ret => obtain ⟨a, q1, q2, q3, q4, q5⟩ := h; exact ⟨a, q1, q2, q3, facts_sub q4, q5⟩
          | panic id => obtain ⟨a, q1, q2, q3, q4, q5⟩ := h; exact ⟨a, q1, q2, q3, facts_sub q4, q5⟩
          | outgrown => obtain ⟨a, q1, q2, q3, q4, q5⟩ := h; exact ⟨a, q1, q2, q3, facts_sub q4, q5⟩) hst).1 hn t hl rfl
      refine AWl.round (hrun.mono ?_)
      rintro e' t' S' ⟨hl', hq⟩
      cases e' with
      | normal => obtain ⟨d', q1, q2, rfl, q4⟩ := hq; exact ih d' (by omega) q1 t' hl' q4
      | exit id => exact ⟨hl', hq⟩
      | goto id => exact ⟨hl', hq⟩
      | ret => exact ⟨hl', hq⟩
      | panic id => exact ⟨hl', hq⟩
      | outgrown => exact ⟨hl', hq⟩
  intro t hl hf
  subst hS; subst hf0
  exact key (μ d0 + 1) d0 (Nat.lt_succ_self _) hp0 t hl hf

/-- The loops of a text, in order. -/
def loopsOf : Code → List Code
  | .seq a b => loopsOf a ++ loopsOf b
  | .cond _ a b => loopsOf a ++ loopsOf b
  | .block _ c => loopsOf c
  | .loop c => c :: loopsOf c
  | .rangeFunc _ _ a b => loopsOf a ++ loopsOf b
  | _ => []
def loopOf (fn : Func) (i : Nat) : Code := (loopsOf (bodyF fn)).getD i .skip
/-- The ranges over functions of a text, in order. -/
def rangesOf : Code → List (Operand × Array Tmp × Code × Code)
  | .seq a b => rangesOf a ++ rangesOf b
  | .cond _ a b => rangesOf a ++ rangesOf b
  | .block _ c => rangesOf c
  | .loop c => rangesOf c
  | .rangeFunc f ps a b => (f, ps, a, b) :: (rangesOf a ++ rangesOf b)
  | _ => []
def rangeOf (fn : Func) (i : Nat) : Operand × Array Tmp × Code × Code := (rangesOf (bodyF fn)).getD i (.tmp 0, #[], .skip, .skip)

end
end Go.Proofs.Ytfjeopaaplnoaaa.Av
