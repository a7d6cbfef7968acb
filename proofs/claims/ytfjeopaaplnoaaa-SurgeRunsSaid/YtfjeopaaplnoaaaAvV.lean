/-
  THE ABSTRACT WALK BY RECKONING (3): temporaries as a function: what simp sees of them stays small.
-/
import Derived.Test.YtfjeopaaplnoaaaAvT
namespace Go.Proofs.Ytfjeopaaplnoaaa.Av
open Go Go.RowKit
set_option linter.unusedSimpArgs false
set_option linter.unusedVariables false

abbrev St := Nat → AV

def lk (t : List AV) : St := fun i => t.getD i (.tup [])
def ini (args : List AV) : St := fun i => args.getD i (.tup [])
def upd (st : St) (d : Nat) (v : AV) : St := fun i => match Nat.beq i d with
  | true => v
  | false => st i

def evF (st : St) : Operand → AV
  | .tmp i => st i
  | x => ev [] x

theorem evF_lk (t : List AV) : evF (lk t) = ev t := by
  funext x
  cases x <;> rfl

theorem upd_eq (st : St) (d : Nat) (v : AV) : upd st d v = fun i => if i = d then v else st i := by
  funext i
  unfold upd
  by_cases h : i = d
  · subst h; simp
  · have : Nat.beq i d = false := by
      cases hb : Nat.beq i d
      · rfl
      · exact absurd (Nat.eq_of_beq_eq_true hb) h
    simp [this, h]
theorem upd_app (st : St) (d i : Nat) (v : AV) : upd st d v i = if i = d then v else st i := by rw [upd_eq]
theorem ini_app (args : List AV) (i : Nat) : ini args i = args.getD i (.tup []) := rfl
theorem evF_tmp (st : St) (i : Nat) : evF st (.tmp i) = st i := rfl
theorem evF_const (st : St) (v : Value) : evF st (.const v) = ev [] (.const v) := rfl
theorem evF_func (st : St) (f : FuncId) : evF st (.func f) = .clo (.func f) [] [] := rfl
theorem evF_global (st : St) (g : Nat) : evF st (.global g) = .sc (.pointer (some ⟨g, 0, none⟩)) := rfl
@[congr] theorem upd_congr {st st' : St} {d i : Nat} {v v' : AV} (h : v = v') : upd st d v = upd st d v' := by rw [h]

theorem lk_set {t : List AV} {d : Nat} (v : AV) (h : d < t.length) : lk (t.set d v) = upd (lk t) d v := by
  rw [upd_eq]
  funext i
  unfold lk
  by_cases e : i = d
  · subst e; simp [List.getD_eq_getElem?_getD, h]
  · simp [List.getD_eq_getElem?_getD, List.getElem?_set_ne (Ne.symm e), e]

theorem lk_ini (args : List AV) (k : Nat) : lk (args ++ List.replicate k (.tup [])) = ini args := by
  funext i
  unfold lk ini
  by_cases h : i < args.length
  · simp [List.getD_eq_getElem?_getD, List.getElem?_append_left h]
  · rw [List.getD_eq_getElem?_getD, List.getElem?_append_right (by omega), List.getElem?_replicate, List.getD_eq_getElem?_getD, List.getElem?_eq_none (show args.length ≤ i by omega)]
    split <;> rfl

def putF (st : St) (dst : Option Tmp) (v : AV) : St :=
  match dst with
  | some d => upd st d v
  | none => st

def dstOk (n : Nat) (o : Oper) : Bool := match o.dst with
  | some d => decide (d < n)
  | none => true

theorem lk_put {n : Nat} {t : List AV} (hl : t.length = n) {o : Oper} (h : dstOk n o = true) (v : AV) : lk (putA t o.dst v) = putF (lk t) o.dst v ∧ (putA t o.dst v).length = n := by
  unfold dstOk at h
  unfold putA putF
  cases hd : o.dst with
  | none => exact ⟨rfl, hl⟩
  | some d =>
    rw [hd] at h
    exact ⟨lk_set v (by rw [hl]; simpa using h), by simp [hl]⟩

def awantedF (ops : Array Oper) (st : St) (o : Oper) : Bool :=
  match o.guard with
  | none => true
  | some (j, want) => (((ops[j]?).bind (·.dst)).bind fun s => avBool (st s)) == some want

theorem awanted_lk (ops : Array Oper) (t : List AV) (o : Oper) : awanted ops t o = awantedF ops (lk t) o := by
  unfold awanted awantedF
  cases o.guard with
  | none => rfl
  | some q =>
    obtain ⟨j, want⟩ := q
    simp only [ayield]
    congr 1
    cases ((ops[j]?).bind (·.dst)) with
    | none => rfl
    | some s =>
      simp only [Option.bind_some, lk, List.getD_eq_getElem?_getD]
      cases t[s]? <;> rfl

def QL (n : Nat) (Q : Exit → St → AS → Prop) : Exit → List AV → AS → Prop := fun e t S => t.length = n ∧ Q e (lk t) S

def thenF (R : St → AS → Prop) (Q : Exit → St → AS → Prop) : Exit → St → AS → Prop
  | .normal, t, S => R t S
  | e, t, S => Q e t S
def blockF (id : Nat) (Q : Exit → St → AS → Prop) : Exit → St → AS → Prop
  | .exit id', t, S => if id' = id then Q .normal t S else Q (.exit id') t S
  | e, t, S => Q e t S
def OutF (Q : St → AS → Prop) : Exit → St → AS → Prop
  | .normal, t, S => Q t S
  | .ret, t, S => Q t S
  | _, _, _ => False

/-- The guard of an operation. -/
def grdW (ops : Array Oper) (st : St) (o : Oper) (A B : Prop) : Prop :=
  match o.guard with
  | none => A
  | some (j, w) => match (ops[j]?).bind (·.dst) with
    | some s => match st s with
      | .sc (.bool b) => match w with
        | true => ifH b A B
        | false => ifH b B A
      | _ => B
    | none => B

theorem grdW_use {ops : Array Oper} {st : St} {o : Oper} {A B : Prop} (h : grdW ops st o A B) : (awantedF ops st o = true → A) ∧ (awantedF ops st o = false → B) := by
  unfold grdW at h
  unfold awantedF
  cases hg : o.guard with
  | none => rw [hg] at h; exact ⟨fun _ => h, fun k => by cases k⟩
  | some q =>
    obtain ⟨j, w⟩ := q
    rw [hg] at h
    simp only at h ⊢
    cases hs : (ops[j]?).bind (·.dst) with
    | none => rw [hs] at h; exact ⟨fun k => by simp at k, fun _ => h⟩
    | some s =>
      rw [hs] at h
      simp only [Option.bind_some] at h ⊢
      split at h
      · rename_i b hb
        simp only [hb, avBool]
        cases w with
        | true => exact ⟨fun k => h.t (by simpa using k), fun k => h.f (by simpa using k)⟩
        | false => exact ⟨fun k => h.f (by simpa using k), fun k => h.t (by simpa using k)⟩
      · rename_i hb
        have : avBool (st s) = none := by
          unfold avBool
          split
          · rename_i b e; exact absurd e (hb b)
          · rfl
        rw [this]
        exact ⟨fun k => by simp at k, fun _ => h⟩

theorem grdW_mono {ops : Array Oper} {st : St} {o : Oper} {A B A' B' : Prop} (h : grdW ops st o A B) (ha : A → A') (hb : B → B') : grdW ops st o A' B' := by
  unfold grdW at h ⊢
  split
  · rename_i e; rw [e] at h; exact ha h
  · rename_i j w e
    rw [e] at h
    simp only at h
    split
    · rename_i s e2
      rw [e2] at h
      simp only at h
      split
      · rename_i b e3
        rw [e3] at h
        cases w with
        | true => exact ⟨fun k => ha (h.t k), fun k => hb (h.f k)⟩
        | false => exact ⟨fun k => hb (h.t k), fun k => ha (h.f k)⟩
      · rename_i e3
        split at h
        · rename_i b e4; exact absurd e4 (e3 b)
        · exact hb h
    · rename_i e2
      rw [e2] at h
      exact hb h

def AWeF (P : Program) (ops : Array Oper) (Q : St → AS → Prop) : List Oper → St → AS → Prop
  | [], t, S => Q t S
  | o :: l, t, S => grdW ops t o (aopw P o (evF t) S (fun v S' => AWeF P ops Q l (putF t o.dst v) S')) (AWeF P ops Q l (putF t o.dst (.tup [])) S)

def AWdF (P : Program) (ops : Array Oper) (Q : St → AS → Prop) : List Oper → List (List AV) → St → AS → Prop
  | [], pa, t, S => Q t (S.pushes pa)
  | o :: l, pa, t, S =>
    match isA o with
    | true => match o.op with
      | .alloc T => someH (azero P T) (fun cs => AWdF P ops Q l (pa ++ [cs]) (putF t o.dst (.ptr (S.box.length + pa.length) 0)) S)
      | _ => False
    | false => match ixD o with
      | true => grdW ops t o (aopw P o (evF t) (S.pushes pa) (fun v S' => AWdF P ops Q l [] (putF t o.dst v) S'))
        (AWdF P ops Q l [] (putF t o.dst (.tup [])) (S.pushes pa))
      | false => grdW ops t o (adetw P o (evF t) S (fun v => AWdF P ops Q l pa (putF t o.dst v) S))
        (AWdF P ops Q l pa (putF t o.dst (.tup [])) S)

def codeN (n : Nat) : Code → Bool
  | .seq a b => codeN n a && codeN n b
  | .cond _ a b => codeN n a && codeN n b
  | .block _ c => codeN n c
  | .region _ ops _ => ops.toList.all (dstOk n)
  | _ => true

section
variable {P : Program} {n : Nat}

theorem aintw_mono {op : BinOp} {k : IntKind} {a b : Int} {R R' : Value → Prop} (h : aintw op k a b R) (hr : ∀ v, R v → R' v) : aintw op k a b R' := by
  obtain ⟨v, h1, h2⟩ := aint_det h
  exact h2 R' (hr v h1)

theorem abinw_mono {op : BinOp} {T : TypeId} {X Y : AV} {R R' : AV → Prop} (h : abinw P op T X Y R) (hr : ∀ v, R v → R' v) : abinw P op T X Y R' := by
  obtain ⟨v, h1, h2⟩ := abin_det h
  exact h2 R' (hr v h1)

theorem abuiltinw_mono {b : Builtin} {xs : List Operand} {Ts : List TypeId} {e : Operand → AV} {S : AS} {Kp Kp' : AV → AS → Prop} (h : abuiltinw P b xs Ts e S Kp) (hk : ∀ v S', Kp v S' → Kp' v S') : abuiltinw P b xs Ts e S Kp' := by
  unfold abuiltinw at h ⊢
  split at h
  · split at h
    · split at h
      · exact hk _ _ h
      · exact h.elim
    · split at h
      · exact hk _ _ h
      · exact h.elim
    · exact h.elim
  · split at h
    · exact hk _ _ h
    · exact h.elim
  · split at h
    · exact hk _ _ h
    · exact h.elim
  · obtain ⟨h0, h⟩ := h
    refine ⟨h0, ?_⟩
    split at h
    · split at h
      · exact ⟨h.1, fun e => hk _ _ (h.2.1 e), fun e => hk _ _ (h.2.2 e)⟩
      · exact h.elim
    · exact h.elim
  · exact h.elim

theorem AYield.mono {l : Nat} {args : List AV} {S : AS} {Kp Kp' : AV → AS → Prop} (h : AYield P l args S Kp) (hk : ∀ v S', Kp v S' → Kp' v S') : AYield P l args S Kp' := by
  obtain ⟨L, h1, h2, h3⟩ := h
  refine ⟨L, h1, h2, h3.mono ?_⟩
  intro e t S hq
  cases e with
  | normal =>
    obtain ⟨L1, q1, q2, q3⟩ := hq
    refine ⟨L1, q1, q2, q3.mono ?_⟩
    intro e t S hq
    cases e with
    | normal => obtain ⟨L2, u1, u2⟩ := hq; exact ⟨L2, u1, hk _ _ u2⟩
    | ret => obtain ⟨L2, u1, u2⟩ := hq; exact ⟨L2, u1, hk _ _ u2⟩
    | exit id => obtain ⟨L2, u1, u2⟩ := hq; exact ⟨L2, u1, hk _ _ u2⟩
    | goto l => exact hq.elim
    | panic c => exact hq.elim
    | outgrown => exact hq.elim
  | exit id => exact hq.elim
  | goto l => exact hq.elim
  | ret => exact hq.elim
  | panic c => exact hq.elim
  | outgrown => exact hq.elim

theorem ACallV.mono {f : AV} {args : List AV} {S : AS} {Kp Kp' : AV → AS → Prop} (h : ACallV P f args S Kp) (hk : ∀ v S', Kp v S' → Kp' v S') : ACallV P f args S Kp' := by
  unfold ACallV at h ⊢
  split at h
  · exact ⟨ACall.mono h.out hk⟩
  · exact ⟨AYield.mono h.out hk⟩
  · exact h.elim

theorem aopw_mono {o : Oper} {e : Operand → AV} {S : AS} {Kp Kp' : AV → AS → Prop} (h : aopw P o e S Kp) (hk : ∀ v S', Kp v S' → Kp' v S') : aopw P o e S Kp' := by
  unfold aopw at h ⊢
  split at h
  case h_5 => exact ⟨h.out.1, hk _ _ h.out.2⟩
  case h_9 =>
    refine ⟨?_⟩
    replace h := h.out
    split at h <;> first | exact hk _ _ h | exact h.elim
  case h_4 => obtain ⟨cs, e, h⟩ := h; exact ⟨cs, e, hk _ _ h⟩
  case h_7 => obtain ⟨st, hs, h1, h2, h3, h4⟩ := h; exact ⟨st, hs, h1, h2, h3, hk _ _ h4⟩
  case h_11 => exact abinw_mono h (fun v => hk v S)
  case h_17 =>
    split at h
    · obtain ⟨h1, h2, u, h3, h4⟩ := h; exact ⟨h1, h2, someW_of h3 (hk _ _ h4)⟩
    · split at h
      · exact ⟨h.1, h.2.1, hk _ _ h.2.2⟩
      · exact h.elim
    · exact h.elim
  case h_18 =>
    split at h
    · obtain ⟨h1, h2, u, h3, h4⟩ := h; exact ⟨h1, h2, someW_of h3 (hk _ _ h4)⟩
    · exact h.elim
  case h_20 =>
    split at h
    · obtain ⟨h1, l, hh, h2, h3, h4, h5, h6⟩ := h; exact ⟨h1, l, hh, h2, h3, h4, h5, hk _ _ h6⟩
    · obtain ⟨h1, h2, h3, h4⟩ := h; exact ⟨h1, h2, h3, hk _ _ h4⟩
    · exact h.elim
  case h_21 =>
    split at h
    · exact ⟨h.1, hk _ _ h.2⟩
    · exact ⟨h.1, hk _ _ h.2⟩
    · exact h.elim
  case h_22 => exact ACallV.mono h hk
  case h_23 => exact abuiltinw_mono h hk
  case h_24 => exact h.elim
  all_goals first
    | exact hk _ _ h
    | (split at h <;> first
        | exact hk _ _ h
        | exact ⟨fun k => hk _ _ (h.t k), fun k => hk _ _ (h.f k)⟩
        | exact h.elim
        | (split at h <;> first
            | exact hk _ _ h
            | exact h.elim))

theorem adetw_mono' {o : Oper} {e : Operand → AV} {S : AS} {R R' : AV → Prop} (h : adetw P o e S R) (hr : ∀ v, R v → R' v) : adetw P o e S R' := by
  unfold adetw at h ⊢
  split at h
  · unfold callW at h ⊢
    split at h
    · obtain ⟨v, h1, h2⟩ := h; exact ⟨v, h1, hr v h2⟩
    · exact h.elim
  · exact aopw_mono h (fun v S' hk => ⟨hk.1, hr v hk.2⟩)

theorem AWeF_sound {ops : Array Oper} {Q : St → AS → Prop} : ∀ (l : List Oper) (t : List AV) (S : AS), (∀ o ∈ l, dstOk n o = true) → t.length = n → AWeF P ops Q l (lk t) S → AWe P ops (fun t S => t.length = n ∧ Q (lk t) S) l t S
  | [], t, S, _, hl, h => ⟨hl, h⟩
  | o :: l, t, S, hd, hl, h => by
    unfold AWeF at h
    unfold AWe
    rw [awanted_lk]
    have hdo := hd o (List.mem_cons_self ..)
    replace h := grdW_use h
    refine ⟨fun hw => ?_, fun hw => ?_⟩
    · have := h.1 hw
      rw [evF_lk] at this
      exact aopw_mono this (fun v S' hk => by
        obtain ⟨q1, q2⟩ := lk_put hl hdo v
        exact AWeF_sound l _ S' (fun o ho => hd o (List.mem_cons_of_mem _ ho)) q2 (q1 ▸ hk))
    · obtain ⟨q1, q2⟩ := lk_put hl hdo (.tup [])
      exact AWeF_sound l _ S (fun o ho => hd o (List.mem_cons_of_mem _ ho)) q2 (q1 ▸ h.2 hw)

theorem AWdF_sound {ops : Array Oper} {Q : St → AS → Prop} : ∀ (l : List Oper) (pa : List (List AV)) (t : List AV) (S : AS), (∀ o ∈ l, dstOk n o = true) → t.length = n → AWdF P ops Q l pa (lk t) S → AWdx P ops (fun t S => t.length = n ∧ Q (lk t) S) l pa t S
  | [], pa, t, S, _, hl, h => ⟨hl, h⟩
  | o :: l, pa, t, S, hd, hl, h => by
    have hdo := hd o (List.mem_cons_self ..)
    have hd' : ∀ o ∈ l, dstOk n o = true := fun o ho => hd o (List.mem_cons_of_mem _ ho)
    unfold AWdF at h
    unfold AWdx
    split at h
    · rename_i ha
      rw [if_pos ha]
      split at h
      · rename_i T hT
        obtain ⟨cs, hz, h⟩ := h
        simp only [hT, hz]
        obtain ⟨q1, q2⟩ := lk_put hl hdo (.ptr (S.box.length + pa.length) 0)
        exact AWdF_sound l _ _ S hd' q2 (q1 ▸ h)
      · exact h.elim
    · rename_i ha
      rw [if_neg (by simp [ha])]
      split at h
      · rename_i hx
        rw [if_pos hx, awanted_lk]
        replace h := grdW_use h
        refine ⟨fun hw => ?_, fun hw => ?_⟩
        · have := h.1 hw
          rw [evF_lk] at this
          exact aopw_mono this (fun v S' hk => by
            obtain ⟨q1, q2⟩ := lk_put hl hdo v
            exact AWdF_sound l _ _ S' hd' q2 (q1 ▸ hk))
        · obtain ⟨q1, q2⟩ := lk_put hl hdo (.tup [])
          exact AWdF_sound l _ _ _ hd' q2 (q1 ▸ h.2 hw)
      · rename_i hx
        rw [if_neg (by simp [hx]), awanted_lk]
        replace h := grdW_use h
        refine ⟨fun hw => ?_, fun hw => ?_⟩
        · have := h.1 hw
          rw [evF_lk] at this
          exact adetw_mono' this (fun v hk => by
            obtain ⟨q1, q2⟩ := lk_put hl hdo v
            exact AWdF_sound l _ _ S hd' q2 (q1 ▸ hk))
        · obtain ⟨q1, q2⟩ := lk_put hl hdo (.tup [])
          exact AWdF_sound l _ _ S hd' q2 (q1 ▸ h.2 hw)

theorem AWeF_mono {ops : Array Oper} {Q Q' : St → AS → Prop} (hq : ∀ t S, Q t S → Q' t S) : ∀ (l : List Oper) (t : St) (S : AS), AWeF P ops Q l t S → AWeF P ops Q' l t S
  | [], t, S, h => hq t S h
  | o :: l, t, S, h => by
    unfold AWeF at h ⊢
    exact grdW_mono h (fun h => aopw_mono h fun v S' h => AWeF_mono hq l _ _ h) (AWeF_mono hq l _ _)

/-! ### Regions that draw, with loads that may come up late -/

structure Ld where
  k : Nat
  T : TypeId
  p : AV
  v : AV

structure bitW (b : Bool) (A : Prop) : Prop where
  out : b = false → A
theorem bitW.skip {b : Bool} {A : Prop} (h : b = true) : bitW b A := ⟨fun k => by rw [h] at k; cases k⟩
theorem bitW.use {b : Bool} {A : Prop} (h : A) : bitW b A := ⟨fun _ => h⟩

def lateW (P : Program) (ms : List Nat) (k : Nat) (S : AS) : List Ld → Prop
  | [] => True
  | ⟨j, T, p, v⟩ :: l => bitW ((ms.getD k 0).testBit j) (aload P T S p = some v) ∧ lateW P ms k S l

theorem lateW_mem {ms : List Nat} {k : Nat} {S : AS} : ∀ {l : List Ld}, lateW P ms k S l → ∀ q ∈ l, (ms.getD k 0).testBit q.k = false → aload P q.T S q.p = some q.v
  | q :: l, h, q', hq, hw => by
    rcases List.mem_cons.1 hq with rfl | hq
    · exact h.1.out hw
    · exact lateW_mem h.2 q' hq hw

def addLd (o : Oper) (k : Nat) (e : Operand → AV) (v : AV) (late : List Ld) : List Ld :=
  match o.op with
  | .load T x => ⟨k, T, e x, v⟩ :: late
  | _ => late

def AWdL (P : Program) (ops : Array Oper) (ms : List Nat) (Q : St → AS → Prop) : Nat → List Oper → List Ld → List (List AV) → St → AS → Prop
  | _, [], _, pa, t, S => Q t (S.pushes pa)
  | k, o :: l, late, pa, t, S =>
    match isA o with
    | true => match o.op with
      | .alloc T => someH (azero P T) (fun cs => AWdL P ops ms Q (k + 1) l late (pa ++ [cs]) (putF t o.dst (.ptr (S.box.length + pa.length) 0)) S)
      | _ => False
    | false => match ixD o with
      | true => grdW ops t o (aopw P o (evF t) (S.pushes pa) (fun v S' => lateW P ms k S' late ∧ AWdL P ops ms Q (k + 1) l late [] (putF t o.dst v) S'))
        (lateW P ms k (S.pushes pa) late ∧ AWdL P ops ms Q (k + 1) l late [] (putF t o.dst (.tup [])) (S.pushes pa))
      | false => grdW ops t o (adetw P o (evF t) S (fun v => AWdL P ops ms Q (k + 1) l (addLd o k (evF t) v late) pa (putF t o.dst v) S))
        (AWdL P ops ms Q (k + 1) l late pa (putF t o.dst (.tup [])) S)

def LdInv (P : Program) (late : Late) (ld : List Ld) : Prop :=
  ∀ q ∈ late, (∀ S, ADet P q.2.1 q.2.2.1 S q.2.2.2) ∨ (okOp q.2.1 = true ∧ ∃ T x, q.2.1.op = .load T x ∧ (⟨q.1, T, ev q.2.2.1 x, q.2.2.2⟩ : Ld) ∈ ld)

theorem LdInv.ok {ops : Array Oper} {late : Late} {ld : List Ld} {k : Nat} {S : AS} (h : LdInv P late ld) (hl : lateW P (masksOf ops) k S ld) : LateOk P late (waits ops k) S := by
  intro q hq hw
  rcases h q hq with h | ⟨hok, T, x, ho, hm⟩
  · exact h S
  · have := lateW_mem hl _ hm hw
    refine aopw_sound hok ?_
    unfold aopw
    simp only [ho, this]
    exact ⟨by trivial, by trivial⟩

theorem AWdL_sound {ops : Array Oper} {Q : St → AS → Prop} : ∀ (l : List Oper) (k : Nat) (late : Late) (ld : List Ld) (pa : List (List AV)) (t : List AV) (S : AS), (∀ o ∈ l, dstOk n o = true ∧ okOp o = true) → t.length = n → LdInv P late ld →
    AWdL P ops (masksOf ops) Q k l ld pa (lk t) S → AWg P ops ixD (fun t S => t.length = n ∧ Q (lk t) S) k l late pa t S
  | [], k, late, ld, pa, t, S, _, hl, _, h => ⟨hl, h⟩
  | o :: l, k, late, ld, pa, t, S, hd, hl, hi, h => by
    have hdo := (hd o (List.mem_cons_self ..)).1
    have hoo := (hd o (List.mem_cons_self ..)).2
    have hd' : ∀ o ∈ l, dstOk n o = true ∧ okOp o = true := fun o ho => hd o (List.mem_cons_of_mem _ ho)
    unfold AWdL at h
    unfold AWg
    cases ha : isA o with
    | true =>
      rw [ha] at h
      simp only at h
      rw [if_pos rfl]
      split at h
      · rename_i T hT
        obtain ⟨cs, hz, h⟩ := h
        obtain ⟨q1, q2⟩ := lk_put hl hdo (.ptr (S.box.length + pa.length) 0)
        exact ⟨T, cs, hT, hz, AWdL_sound l _ late ld _ _ S hd' q2 hi (q1 ▸ h)⟩
      · exact h.elim
    | false =>
      rw [ha] at h
      simp only at h
      rw [if_neg (by simp)]
      cases hx : ixD o with
      | true =>
        rw [hx] at h
        simp only at h
        rw [if_pos rfl, awanted_lk]
        replace h := grdW_use h
        split
        · rename_i hw
          have := h.1 hw
          rw [evF_lk] at this
          exact aopw_sound hoo (aopw_mono this (fun v S' hk => by
            obtain ⟨q1, q2⟩ := lk_put hl hdo v
            exact ⟨hi.ok hk.1, AWdL_sound l _ late ld _ _ S' hd' q2 hi (q1 ▸ hk.2)⟩))
        · rename_i hw
          have := h.2 (by simpa using hw)
          obtain ⟨q1, q2⟩ := lk_put hl hdo (.tup [])
          exact ⟨hi.ok this.1, AWdL_sound l _ late ld _ _ _ hd' q2 hi (q1 ▸ this.2)⟩
      | false =>
        rw [hx] at h
        simp only at h
        rw [if_neg (by simp), awanted_lk]
        replace h := grdW_use h
        split
        · rename_i hw
          have := h.1 hw
          rw [evF_lk] at this
          have hdet : detOp o.op = true := by simpa [ixD] using hx
          obtain ⟨v, h1, h2, h3⟩ := adetw_sound hoo hdet this
          obtain ⟨q1, q2⟩ := lk_put hl hdo v
          refine ⟨v, h1, AWdL_sound l _ _ _ pa _ S hd' q2 ?_ (q1 ▸ h2)⟩
          intro q hq
          rcases List.mem_cons.1 hq with rfl | hq
          · rcases h3 with h3 | h3
            · exact .inl h3
            · right
              refine ⟨hoo, ?_⟩
              simp only
              unfold indepOp at h3
              split at h3
              · rename_i T x ho
                refine ⟨_, _, ho, ?_⟩
                unfold addLd
                simp only [ho]
                exact List.mem_cons_self ..
              · rw [hdet] at h3; cases h3
          · rcases hi q hq with h | ⟨h4, T, x, ho, hm⟩
            · exact .inl h
            · refine .inr ⟨h4, T, x, ho, ?_⟩
              unfold addLd
              split
              · exact List.mem_cons_of_mem _ hm
              · exact hm
        · rename_i hw
          obtain ⟨q1, q2⟩ := lk_put hl hdo (.tup [])
          exact AWdL_sound l _ late ld pa _ S hd' q2 hi (q1 ▸ h.2 (by simpa using hw))

/-- What a piece of code does; what is asked of its text comes along. -/
structure RunC (P : Program) (n : Nat) (c : Code) (Q : Exit → St → AS → Prop) (st : St) (S : AS) : Prop where
  out : P.follows .mixedOrders = true → codeR P c = true → codeN n c = true → ∀ t, t.length = n → lk t = st → AW P c (QL n Q) t S
structure RunE (P : Program) (ops : Array Oper) (Q : St → AS → Prop) (l : List Oper) (st : St) (S : AS) : Prop where
  out : AWeF P ops Q l st S
structure RunD (P : Program) (ops : Array Oper) (Q : St → AS → Prop) (l : List Oper) (pa : List (List AV)) (st : St) (S : AS) : Prop where
  out : AWdF P ops Q l pa st S
/-- From the head of a loop's round. -/
structure AWlF (P : Program) (n : Nat) (c : Code) (Q : Exit → St → AS → Prop) (st : St) (S : AS) : Prop where
  out : P.follows .mixedOrders = true → codeR P c = true → codeN n c = true → ∀ t, t.length = n → lk t = st → AWl P c (QL n Q) t S
structure AWrF (P : Program) (n : Nat) (f : Operand) (ps : Array Tmp) (x c : Code) (Q : Exit → St → AS → Prop) (st : St) (S : AS) : Prop where
  out : P.follows .mixedOrders = true → ∀ t, t.length = n → lk t = st → AW P (.rangeFunc f ps x c) (QL n Q) t S

def condW (v : AV) (A B : Prop) : Prop := match v with
  | .sc (.bool c) => ifH c A B
  | _ => False

section
variable {Q : Exit → St → AS → Prop} {st : St} {S : AS} {a b c : Code} {id l : Nat} {ops : Array Oper} {x : Operand}

theorem RunC.skip (h : Q .normal st S) : RunC P n .skip Q st S := ⟨fun _ _ _ t hl e => AW.skip ⟨hl, e ▸ h⟩⟩
theorem RunC.label (h : Q .normal st S) : RunC P n (.label l) Q st S := ⟨fun _ _ _ t hl e => AW.label ⟨hl, e ▸ h⟩⟩
theorem RunC.exit (h : Q (.exit id) st S) : RunC P n (.exit id) Q st S := ⟨fun _ _ _ t hl e => AW.exit ⟨hl, e ▸ h⟩⟩
theorem RunC.ret (h : Q .ret st S) : RunC P n .ret Q st S := ⟨fun _ _ _ t hl e => AW.ret ⟨hl, e ▸ h⟩⟩
theorem RunC.seq (h : RunC P n a (thenF (RunC P n b Q) Q) st S) : RunC P n (.seq a b) Q st S := by
  refine ⟨fun hm hok hn t hl e => ?_⟩
  simp only [codeR, codeN, Bool.and_eq_true] at hok hn
  refine AW.seq ((h.out hm hok.1 hn.1 t hl e).mono ?_)
  rintro e t' S' ⟨hl', hq⟩
  cases e with
  | normal => exact hq.out hm hok.2 hn.2 t' hl' rfl
  | exit id => exact ⟨hl', hq⟩
  | goto l => exact ⟨hl', hq⟩
  | ret => exact ⟨hl', hq⟩
  | panic ch => exact ⟨hl', hq⟩
  | outgrown => exact ⟨hl', hq⟩
theorem RunC.cond (h : condW (evF st x) (RunC P n a Q st S) (RunC P n b Q st S)) : RunC P n (.cond x a b) Q st S := by
  refine ⟨fun hm hok hn t hl e => ?_⟩
  simp only [codeR, codeN, Bool.and_eq_true] at hok hn
  subst e
  unfold condW at h
  rw [evF_lk] at h
  split at h
  · rename_i c e
    exact AW.cond e hok.1.1 (fun hc => (h.t hc).out hm hok.1.2 hn.1 t hl rfl) (fun hc => (h.f hc).out hm hok.2 hn.2 t hl rfl)
  · exact h.elim
theorem RunC.block (h : RunC P n c (blockF id Q) st S) : RunC P n (.block id c) Q st S := by
  refine ⟨fun hm hok hn t hl e => ?_⟩
  refine AW.block ((h.out hm hok hn t hl e).mono ?_)
  rintro e t' S' ⟨hl', hq⟩
  cases e with
  | exit id' =>
    simp only [blockF, blockQ] at hq ⊢
    split
    · rename_i e; rw [if_pos e] at hq; exact ⟨hl', hq⟩
    · rename_i e; rw [if_neg e] at hq; exact ⟨hl', hq⟩
  | normal => exact ⟨hl', hq⟩
  | goto l => exact ⟨hl', hq⟩
  | ret => exact ⟨hl', hq⟩
  | panic ch => exact ⟨hl', hq⟩
  | outgrown => exact ⟨hl', hq⟩
theorem RunC.regE (h : RunE P ops (Q .normal) ops.toList st S) : RunC P n (.region id ops false) Q st S := by
  refine ⟨fun hm hok hn t hl e => ?_⟩
  subst e
  simp only [codeN, List.all_eq_true] at hn
  exact awp_sound hm (.region id ops false) hok (AWeF_sound _ _ _ hn hl h.out)
theorem RunC.regD (hno : noLate ops ixD = true) (h : RunD P ops (Q .normal) ops.toList [] st S) : RunC P n (.region id ops true) Q st S := by
  refine ⟨fun hm hok hn t hl e => ?_⟩
  subst e
  simp only [codeN, List.all_eq_true] at hn
  refine awp_sound hm (.region id ops true) ?_ (AWdF_sound _ _ _ _ hn hl h.out)
  simp only [codeR, Bool.and_eq_true] at hok
  simp only [codeOk, Bool.and_eq_true]
  exact ⟨hok.1, hok.2.1, hok.2.2, hno⟩
structure RunL (P : Program) (ops : Array Oper) (ms : List Nat) (Q : St → AS → Prop) (k : Nat) (l : List Oper) (late : List Ld) (pa : List (List AV)) (st : St) (S : AS) : Prop where
  out : AWdL P ops ms Q k l late pa st S
theorem RunC.regL {ms : List Nat} (hms : masksOf ops = ms) (h : RunL P ops ms (Q .normal) 0 ops.toList [] [] st S) : RunC P n (.region id ops true) Q st S := by
  refine ⟨fun hm hok hn t hl e => ?_⟩
  subst e
  subst hms
  simp only [codeN, List.all_eq_true] at hn
  simp only [codeR, Bool.and_eq_true, List.all_eq_true] at hok
  exact AW.draw hm hok.2.1 hok.2.2 (AWdL_sound _ _ _ _ _ _ _ (fun o ho => ⟨hn o ho, hok.1 o ho⟩) hl (fun q hq => by simp at hq) h.out)
structure LateH (P : Program) (ms : List Nat) (k : Nat) (S : AS) (late : List Ld) (R : Prop) : Prop where
  out : lateW P ms k S late ∧ R
theorem LateH.by {ms : List Nat} {k : Nat} {late : List Ld} {R : Prop} (h : lateW P ms k S late) (r : R) : LateH P ms k S late R := ⟨h, r⟩
theorem RunL.nil {ms : List Nat} {Q : St → AS → Prop} {k : Nat} {late : List Ld} {pa : List (List AV)} (h : stW (S.pushes pa) fun S => Q st S) : RunL P ops ms Q k [] late pa st S := ⟨by unfold AWdL; exact h.out⟩
def stepL (P : Program) (ops : Array Oper) (ms : List Nat) (Q : St → AS → Prop) (k : Nat) (o : Oper) (l : List Oper) (late : List Ld) (pa : List (List AV)) (st : St) (S : AS) : Prop :=
  match isA o with
  | true => match o.op with
    | .alloc T => someH (azero P T) (fun cs => valW (.ptr (S.box.length + pa.length) 0) fun v => RunL P ops ms Q (k + 1) l late (pa ++ [cs]) (putF st o.dst v) S)
    | _ => False
  | false => match ixD o with
    | true => grdW ops st o (stW (S.pushes pa) fun S => aopw P o (evF st) S (fun v S' => valW v fun v => stW S' fun S' => LateH P ms k S' late (RunL P ops ms Q (k + 1) l late [] (putF st o.dst v) S')))
      (stW (S.pushes pa) fun S => LateH P ms k S late (RunL P ops ms Q (k + 1) l late [] (putF st o.dst (.tup [])) S))
    | false => grdW ops st o (adetw P o (evF st) S (fun v => valW v fun v => RunL P ops ms Q (k + 1) l (addLd o k (evF st) v late) pa (putF st o.dst v) S))
      (RunL P ops ms Q (k + 1) l late pa (putF st o.dst (.tup [])) S)
theorem RunL.cons {ms : List Nat} {Q : St → AS → Prop} {k : Nat} {o : Oper} {l : List Oper} {late : List Ld} {pa : List (List AV)} (h : stepL P ops ms Q k o l late pa st S) : RunL P ops ms Q k (o :: l) late pa st S := by
  refine ⟨?_⟩
  unfold stepL at h
  unfold AWdL
  cases ha : isA o with
  | true =>
    rw [ha] at h
    simp only at h ⊢
    split at h
    · rename_i T hT
      obtain ⟨cs, hz, h⟩ := h
      exact ⟨cs, hz, h.out.out⟩
    · exact h.elim
  | false =>
    rw [ha] at h
    simp only at h ⊢
    cases hx : ixD o with
    | true => rw [hx] at h; exact grdW_mono h (fun h => aopw_mono h.out fun v S' h => ⟨h.out.out.out.1, h.out.out.out.2.out⟩) (fun h => ⟨h.out.out.1, h.out.out.2.out⟩)
    | false => rw [hx] at h; exact grdW_mono h (fun h => adetw_mono' h fun v h => h.out.out) (fun h => h.out)

theorem RunC.loop (hok : codeR P c = true) (hn : codeN n c = true) (h : AWlF P n c Q st S) : RunC P n (.loop c) Q st S := ⟨fun hm _ _ t hl e => AW.loop (h.out hm hok hn t hl e)⟩
theorem RunC.range {f : Operand} {ps : Array Tmp} (h : AWrF P n f ps a b Q st S) : RunC P n (.rangeFunc f ps a b) Q st S := ⟨fun hm hok hn t hl e => h.out hm t hl e⟩

theorem RunE.nil {Q : St → AS → Prop} (h : Q st S) : RunE P ops Q [] st S := ⟨h⟩
theorem RunE.cons {Q : St → AS → Prop} {o : Oper} {l : List Oper}
    (h : grdW ops st o (aopw P o (evF st) S fun v S' => valW v fun v => stW S' fun S' => RunE P ops Q l (putF st o.dst v) S') (RunE P ops Q l (putF st o.dst (.tup [])) S)) : RunE P ops Q (o :: l) st S := by
  refine ⟨?_⟩
  unfold AWeF
  exact grdW_mono h (fun h => aopw_mono h fun v S' h => h.out.out.out) (fun h => h.out)
theorem RunD.nil {Q : St → AS → Prop} {pa : List (List AV)} (h : stW (S.pushes pa) fun S => Q st S) : RunD P ops Q [] pa st S := ⟨h.out⟩
def stepD (P : Program) (ops : Array Oper) (Q : St → AS → Prop) (o : Oper) (l : List Oper) (pa : List (List AV)) (st : St) (S : AS) : Prop :=
  match isA o with
  | true => match o.op with
    | .alloc T => someH (azero P T) (fun cs => valW (.ptr (S.box.length + pa.length) 0) fun v => RunD P ops Q l (pa ++ [cs]) (putF st o.dst v) S)
    | _ => False
  | false => match ixD o with
    | true => grdW ops st o (stW (S.pushes pa) fun S => aopw P o (evF st) S (fun v S' => valW v fun v => stW S' fun S' => RunD P ops Q l [] (putF st o.dst v) S'))
      (stW (S.pushes pa) fun S => RunD P ops Q l [] (putF st o.dst (.tup [])) S)
    | false => grdW ops st o (adetw P o (evF st) S (fun v => valW v fun v => RunD P ops Q l pa (putF st o.dst v) S))
      (RunD P ops Q l pa (putF st o.dst (.tup [])) S)
theorem RunD.cons {Q : St → AS → Prop} {o : Oper} {l : List Oper} {pa : List (List AV)} (h : stepD P ops Q o l pa st S) : RunD P ops Q (o :: l) pa st S := by
  refine ⟨?_⟩
  unfold stepD at h
  unfold AWdF
  cases ha : isA o with
  | true =>
    rw [ha] at h
    simp only at h ⊢
    split at h
    · rename_i T hT
      obtain ⟨cs, hz, h⟩ := h
      exact ⟨cs, hz, h.out.out⟩
    · exact h.elim
  | false =>
    rw [ha] at h
    simp only at h ⊢
    cases hx : ixD o with
    | true => rw [hx] at h; exact grdW_mono h (fun h => aopw_mono h.out fun v S' h => h.out.out.out) (fun h => h.out.out)
    | false => rw [hx] at h; exact grdW_mono h (fun h => adetw_mono' h fun v h => h.out.out) (fun h => h.out)
end

/-- A loop that counts: 'T i' holds at the head of the round i. -/
theorem AWlF.count {c : Code} {Q : Exit → St → AS → Prop} {st : St} {S : AS} (m : Nat) (T : Nat → St → AS → Prop) (h0 : T 0 st S)
    (fin : ∀ st S, T m st S → RunC P n c (thenF (fun _ _ => False) Q) st S) (step : ∀ i st S, i < m → T i st S → RunC P n c (thenF (T (i + 1)) Q) st S) : AWlF P n c Q st S := by
  refine ⟨fun hm hok hn => ?_⟩
  have key : ∀ (k i : Nat) (t : List AV) (S : AS), i + k = m → t.length = n → T i (lk t) S → AWl P c (QL n Q) t S := by
    intro k
    induction k with
    | zero =>
      intro i t S hk hl h
      have : i = m := by omega
      subst this
      refine AWl.round (((fin _ S h).out hm hok hn t hl rfl).mono ?_)
      rintro e t' S' ⟨hl', hq⟩
      cases e <;> first | exact hq.elim | exact ⟨hl', hq⟩
    | succ k ih =>
      intro i t S hk hl h
      refine AWl.round (((step i _ S (by omega) h).out hm hok hn t hl rfl).mono ?_)
      rintro e t' S' ⟨hl', hq⟩
      cases e <;> first | exact ih (i + 1) t' S' (by omega) hl' hq | exact ⟨hl', hq⟩
  intro t hl ht
  exact key m 0 t S (by omega) hl (ht ▸ h0)

/-- One round. -/
theorem AWlF.step {c : Code} {Q : Exit → St → AS → Prop} {st : St} {S : AS} (h : RunC P n c (thenF (AWlF P n c Q) Q) st S) : AWlF P n c Q st S := by
  refine ⟨fun hm hok hn t hl ht => ?_⟩
  refine AWl.round ((h.out hm hok hn t hl ht).mono ?_)
  rintro e t' S' ⟨hl', hq⟩
  cases e <;> first | exact hq.out hm hok hn t' hl' rfl | exact ⟨hl', hq⟩

/-- A loop's invariant: the state, a fact, what temporaries hold. -/
def Facts (st : St) : List (Nat × AV) → Prop
  | [] => True
  | (k, v) :: l => st k = v ∧ Facts st l
def upds (st : St) : List (Nat × AV) → St
  | [] => st
  | (k, v) :: l => upd (upds st l) k v
theorem upds_of {st : St} : ∀ {l : List (Nat × AV)}, Facts st l → upds st l = st
  | [], _ => rfl
  | (k, v) :: l, h => by
    unfold upds
    rw [upds_of h.2, upd_eq]
    funext i
    by_cases e : i = k
    · subst e; simp [h.1]
    · simp [e]
structure Inv (S0 : AS) (p : Prop) (l : List (Nat × AV)) (st : St) (S : AS) : Prop where
  s : S = S0
  p : p
  f : Facts st l
theorem Inv.get {S0 : AS} {p : Prop} {l : List (Nat × AV)} {st : St} {S : AS} (h : Inv S0 p l st S) : S = S0 ∧ p ∧ ∃ s, st = upds s l := ⟨h.s, h.p, st, (upds_of h.f).symm⟩
theorem int_eq {m n : Int} (h : m = n) : AV.sc (.int .i64 m) = .sc (.int .i64 n) := by rw [h]

/-- What is known of a temporary. -/
theorem st_upd {st : St} {k : Nat} {v : AV} (h : st k = v) : ∃ s, st = upd s k v := by
  refine ⟨st, ?_⟩
  rw [upd_eq]
  funext i
  by_cases e : i = k
  · subst e; simp [h]
  · simp [e]

/-! ### Contracts -/

def aresF1 (P : Program) (t : St) (S : AS) : ResultVar → Option AV
  | .tmp i => some (t i)
  | .cell i T => aload P T S (t i)
def aresF (P : Program) (t : St) (S : AS) (rs : List ResultVar) : Option AV :=
  match rs with
  | [r] => aresF1 P t S r
  | rs => (rs.mapM (aresF1 P t S)).map .tup

theorem aresF_lk (t : List AV) (S : AS) (rs : List ResultVar) : ares P t S rs = aresF P (lk t) S rs := by
  have h : ares1 P t S = aresF1 P (lk t) S := by funext r; cases r <;> rfl
  unfold ares aresF
  split <;> simp [h]

theorem VLe.of_eq {v u : AV} (h : v = u) : VLe v u := h ▸ VLe.refl v
/-- What comes back. -/
structure FinW (x : Option AV) (v : AV) : Prop where
  out : ∃ v2, x = some v2 ∧ VLe v2 v
theorem FinW.of {x : Option AV} {v : AV} (v2 : AV) (h : x = some v2) (e : v2 = v) : FinW x v := ⟨v2, h, VLe.of_eq e⟩

/-- A function's contract from its body, from the empty state. -/
theorem DCall.fnF (hm : P.follows .mixedOrders = true) {f : FuncId} {fn : Func} {c : Code} {rs : Array ResultVar} {args : List AV} {v : AV} (hf : P.funcs[f]? = some fn) (hb : fn.body = some c) (hn : fn.ntmps = n) (hr : fn.results = rs) (hc : callable P f = true) (hok : codeR P c = true) (hN : codeN n c = true)
    (ha : closedL args = true) (hv : closedB v = true) (hle : args.length ≤ n) (h : RunC P n c (OutF fun t' S2 => FinW (aresF P t' S2 rs.toList) v) (ini args) ⟨[], [], []⟩) : DCall P f args v := by
  subst hn; subst hr
  refine ACall.frame (ACall.of_body_all hf hb hc ((h.out hm hok hN (args ++ List.replicate (fn.ntmps - args.length) (.tup [])) (by simp; omega) (by rw [lk_ini])).mono ?_)) (closedL_wf _ ha) (closedB_wf _ hv)
  rintro e t' S' ⟨hl, hq⟩
  cases e with
  | normal => obtain ⟨v2, h1, h2⟩ := hq; exact ⟨v2, v, by rw [aresF_lk]; exact h1, h2, rfl⟩
  | ret => obtain ⟨v2, h1, h2⟩ := hq; exact ⟨v2, v, by rw [aresF_lk]; exact h1, h2, rfl⟩
  | _ => exact hq.elim

/-- A call, its function's body in its place. -/
theorem ACallH.inl (hm : P.follows .mixedOrders = true) {f : FuncId} {fn : Func} {c : Code} {rs : Array ResultVar} {args : List AV} {S : AS} {Kp : AV → AS → Prop} (hf : P.funcs[f]? = some fn) (hb : fn.body = some c) (hn : fn.ntmps = n) (hr : fn.results = rs) (hc : callable P f = true) (hok : codeR P c = true) (hN : codeN n c = true)
    (hle : args.length ≤ n) (h : RunC P n c (OutF fun t' S2 => someH (aresF P t' S2 rs.toList) fun v => valW v fun v => stW S2 fun S2 => Kp v S2) (ini args) S) : ACallH P f args S Kp := by
  subst hn; subst hr
  refine ⟨ACall.of_body_all hf hb hc ((h.out hm hok hN (args ++ List.replicate (fn.ntmps - args.length) (.tup [])) (by simp; omega) (by rw [lk_ini])).mono ?_)⟩
  rintro e t' S' ⟨hl, hq⟩
  cases e with
  | normal => obtain ⟨v, h1, h2⟩ := hq; exact ⟨v, v, by rw [aresF_lk]; exact h1, VLe.refl _, h2.out.out⟩
  | ret => obtain ⟨v, h1, h2⟩ := hq; exact ⟨v, v, by rw [aresF_lk]; exact h1, VLe.refl _, h2.out.out⟩
  | _ => exact hq.elim

end
end Go.Proofs.Ytfjeopaaplnoaaa.Av
