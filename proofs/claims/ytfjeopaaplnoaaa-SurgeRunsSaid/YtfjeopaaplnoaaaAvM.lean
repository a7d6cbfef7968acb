/-
  THE ABSTRACT WALK: a region that draws its order (2): the walk in the order of the text; what the temporaries hold.
-/
import Derived.Test.YtfjeopaaplnoaaaAvL
namespace Go.Proofs.Ytfjeopaaplnoaaa.Av
open Go Go.RowKit
set_option linter.unusedSimpArgs false
set_option linter.unusedVariables false

/-- An operation that leaves the abstract state as it is, and yields this value. -/
def ADet (P : Program) (o : Oper) (t : List AV) (S : AS) (v : AV) : Prop := AOp P o t S fun v' S' => v' = v ∧ S' = S

abbrev Late := List (Nat × Oper × List AV × AV)

/-- What may yet come up behind an operation that turns the state yields there what it yields before. -/
def LateOk (P : Program) (late : Late) (wt : Nat → Bool) (S : AS) : Prop := ∀ q ∈ late, wt q.1 = false → ADet P q.2.1 q.2.2.1 S q.2.2.2

def waits (ops : Array Oper) (k i : Nat) : Bool := ((masksOf ops).getD k 0).testBit i

def AS.pushes (S : AS) (pa : List (List AV)) : AS := { S with box := S.box ++ pa }

def AWg (P : Program) (ops : Array Oper) (ix : Oper → Bool) (cont : List AV → AS → Prop) : Nat → List Oper → Late → List (List AV) → List AV → AS → Prop
  | _, [], _, pa, t, S => cont t (S.pushes pa)
  | k, o :: l, late, pa, t, S =>
    if isA o = true then ∃ T cs, o.op = .alloc T ∧ azero P T = some cs ∧ AWg P ops ix cont (k + 1) l late (pa ++ [cs]) (putA t o.dst (.ptr (S.box.length + pa.length) 0)) S
    else if ix o = true then
      if awanted ops t o = true then AOp P o t (S.pushes pa) (fun v S' => LateOk P late (waits ops k) S' ∧ AWg P ops ix cont (k + 1) l late [] (putA t o.dst v) S')
      else LateOk P late (waits ops k) (S.pushes pa) ∧ AWg P ops ix cont (k + 1) l late [] (putA t o.dst (.tup [])) (S.pushes pa)
    else if awanted ops t o = true then ∃ v, ADet P o t S v ∧ AWg P ops ix cont (k + 1) l ((k, o, t, v) :: late) pa (putA t o.dst v) S
    else AWg P ops ix cont (k + 1) l late pa (putA t o.dst (.tup [])) S

/-- The temporaries behind the first i operations, in the order of the text. -/
def TT (ops : Array Oper) (t : List AV) (v : Nat → AV) : Nat → List AV
  | 0 => t
  | i + 1 => putA (TT ops t v i) (dstOf ops i) (v i)

def DStep (P : Program) (ops : Array Oper) (t : List AV) (S : AS) (v : Nat → AV) (i : Nat) : Prop :=
  ∀ o, ops[i]? = some o → (awanted ops (TT ops t v i) o = true ∧ ADet P o (TT ops t v i) S (v i)) ∨ (awanted ops (TT ops t v i) o = false ∧ v i = .tup [])

section
variable {P : Program} {ops : Array Oper} {t : List AV} {S : AS} {ix : Oper → Bool}

theorem TT_congr {v u : Nat → AV} : ∀ (i : Nat), (∀ j, j < i → v j = u j) → TT ops t v i = TT ops t u i
  | 0, _ => rfl
  | i + 1, h => by
    simp only [TT]
    rw [TT_congr i (fun j hj => h j (by omega)), h i (by omega)]

theorem TT_length (v : Nat → AV) : ∀ i, (TT ops t v i).length = t.length
  | 0 => rfl
  | i + 1 => by
    simp only [TT]
    cases dstOf ops i with
    | none => exact TT_length v i
    | some d => simp [putA, TT_length v i]

/-- What a temporary holds: the value of the one operation before that writes it, or what it held. -/
theorem TT_get (hok : DrawOk ops ix) (v : Nat → AV) (s : Nat) : ∀ i,
    (∀ j, j < i → dstOf ops j = some s → s < t.length → (TT ops t v i)[s]? = some (v j)) ∧ ((∀ j, j < i → dstOf ops j ≠ some s) → (TT ops t v i)[s]? = t[s]?)
  | 0 => ⟨fun j hj => absurd hj (Nat.not_lt_zero _), fun _ => rfl⟩
  | i + 1 => by
    obtain ⟨h1, h2⟩ := TT_get hok v s i
    constructor
    · intro j hj hd hs
      simp only [TT]
      by_cases hij : j = i
      · subst hij
        rw [hd]
        simp only [putA]
        rw [List.getElem?_set_self (by rw [TT_length]; exact hs)]
      · have : dstOf ops i ≠ some s := fun e => hij (hok.uniq j i s hd e)
        cases hdi : dstOf ops i with
        | none => exact h1 j (by omega) hd hs
        | some d =>
          have hne : d ≠ s := fun e => this (by rw [hdi, e])
          simp only [putA]
          rw [List.getElem?_set_ne hne]
          exact h1 j (by omega) hd hs
    · intro hno
      simp only [TT]
      cases hdi : dstOf ops i with
      | none => exact h2 (fun j hj => hno j (by omega))
      | some d =>
        have hne : d ≠ s := fun e => hno i (by omega) (by rw [hdi, e])
        simp only [putA]
        rw [List.getElem?_set_ne hne]
        exact h2 (fun j hj => hno j (by omega))

/-! ### A stretch without an operation that turns the state -/

structure Sg (P : Program) (ops : Array Oper) (ix : Oper → Bool) (t : List AV) (S : AS) (v : Nat → AV) (p q : Nat) (al : List Nat) (pa : List (List AV)) : Prop where
  le : p ≤ q
  top : q ≤ ops.size
  noX : ∀ (i : Nat), p ≤ i → i < q → ∀ o, ops[i]? = some o → isX ix o = false
  det : ∀ (i : Nat), p ≤ i → i < q → ∀ o, ops[i]? = some o → isA o = false → DStep P ops t S v i
  alc : ∀ (m i : Nat), al[m]? = some i → p ≤ i ∧ i < q ∧ ∃ o T cs, ops[i]? = some o ∧ isA o = true ∧ o.op = .alloc T ∧ azero P T = some cs ∧ pa[m]? = some cs ∧ v i = .ptr (S.box.length + m) 0
  all : ∀ (i : Nat), p ≤ i → i < q → ∀ o, ops[i]? = some o → isA o = true → i ∈ al
  nodup : al.Nodup
  len : al.length = pa.length

theorem Sg.nil {v : Nat → AV} {p : Nat} (h : p ≤ ops.size) : Sg P ops ix t S v p p [] [] :=
  ⟨Nat.le_refl _, h, fun i h1 h2 => by omega, fun i h1 h2 => by omega, fun m i h => by simp at h, fun i h1 h2 => by omega, List.nodup_nil, rfl⟩

def EndW (P : Program) (ops : Array Oper) (ix : Oper → Bool) (cont : List AV → AS → Prop) (q : Nat) (late : Late) (pa : List (List AV)) (t : List AV) (S : AS) : Prop :=
  (q = ops.size ∧ cont t (S.pushes pa)) ∨ ∃ o, ops[q]? = some o ∧ isX ix o = true ∧
    ((awanted ops t o = true ∧ AOp P o t (S.pushes pa) (fun v S' => LateOk P late (waits ops q) S' ∧ AWg P ops ix cont (q + 1) (ops.toList.drop (q + 1)) late [] (putA t o.dst v) S')) ∨
     (awanted ops t o = false ∧ LateOk P late (waits ops q) (S.pushes pa) ∧ AWg P ops ix cont (q + 1) (ops.toList.drop (q + 1)) late [] (putA t o.dst (.tup [])) (S.pushes pa)))

def LateHas (ops : Array Oper) (ix : Oper → Bool) (t : List AV) (late : Late) (v : Nat → AV) (q : Nat) : Prop :=
  ∀ (i : Nat), i < q → ∀ o, ops[i]? = some o → isA o = false → isX ix o = false → awanted ops (TT ops t v i) o = true → (i, o, TT ops t v i, v i) ∈ late

theorem drop_cons {k : Nat} {o : Oper} {l : List Oper} (h : o :: l = ops.toList.drop k) : ops[k]? = some o ∧ l = ops.toList.drop (k + 1) ∧ k < ops.size := by
  have h0 : (ops.toList.drop k)[0]? = some o := by rw [← h]; rfl
  rw [List.getElem?_drop, Nat.add_zero, Array.getElem?_toList] at h0
  refine ⟨h0, ?_, (Array.getElem?_eq_some_iff.1 h0).1⟩
  have : (o :: l).drop 1 = (ops.toList.drop k).drop 1 := by rw [h]
  rw [List.drop_drop] at this
  simpa using this

theorem Sg.ext {v x : Nat → AV} {p k : Nat} {al : List Nat} {pa : List (List AV)} (h : Sg P ops ix t S v p k al pa) (hx : ∀ j, j < k → x j = v j) : Sg P ops ix t S x p k al pa := by
  refine ⟨h.le, h.top, h.noX, ?_, ?_, h.all, h.nodup, h.len⟩
  · intro i h1 h2 o ho ha o' ho'
    have := h.det i h1 h2 o ho ha o' ho'
    rwa [← TT_congr i (fun j hj => hx j (by omega)), ← hx i h2] at this
  · intro m i hm
    obtain ⟨h1, h2, o, T, cs, q1, q2, q3, q4, q5, q6⟩ := h.alc m i hm
    exact ⟨h1, h2, o, T, cs, q1, q2, q3, q4, q5, by rw [hx i h2]; exact q6⟩

theorem LateHas.ext {v x : Nat → AV} {k : Nat} {late : Late} (h : LateHas ops ix t late v k) (hx : ∀ j, j < k → x j = v j) : LateHas ops ix t late x k := by
  intro i hi o ho ha hX hw
  have e : TT ops t x i = TT ops t v i := TT_congr i (fun j hj => hx j (by omega))
  rw [e] at hw ⊢
  rw [hx i hi]
  exact h i hi o ho ha hX hw

/-- To the next operation that turns the state. -/
theorem AWg_seg {cont : List AV → AS → Prop} {p : Nat} : ∀ (l : List Oper) (k : Nat) (v : Nat → AV) (late : Late) (pa : List (List AV)) (al : List Nat), l = ops.toList.drop k → k ≤ ops.size → Sg P ops ix t S v p k al pa → LateHas ops ix t late v k →
    AWg P ops ix cont k l late pa (TT ops t v k) S →
    ∃ (q : Nat) (v' : Nat → AV) (late' : Late) (pa' : List (List AV)) (al' : List Nat), k ≤ q ∧ (∀ i, i < k → v' i = v i) ∧ Sg P ops ix t S v' p q al' pa' ∧ LateHas ops ix t late' v' q ∧ EndW P ops ix cont q late' pa' (TT ops t v' q) S
  | [], k, v, late, pa, al, hl, hk, hs, hlt, h => by
    have hq : k = ops.size := by
      have := congrArg List.length hl
      simp at this; omega
    exact ⟨k, v, late, pa, al, Nat.le_refl _, fun _ _ => rfl, hs, hlt, .inl ⟨hq, h⟩⟩
  | o :: l, k, v, late, pa, al, hl, hk, hs, hlt, h => by
    obtain ⟨ho, hl', hks⟩ := drop_cons hl
    have hd : dstOf ops k = o.dst := by simp [dstOf, ho]
    have go : ∀ (x : AV) (late2 : Late) (pa2 : List (List AV)) (al2 : List Nat), isX ix o = false →
        (isA o = false → (awanted ops (TT ops t v k) o = true ∧ ADet P o (TT ops t v k) S x ∧ late2 = (k, o, TT ops t v k, x) :: late) ∨ (awanted ops (TT ops t v k) o = false ∧ x = .tup [] ∧ late2 = late)) →
        (isA o = true → late2 = late ∧ ∃ T cs, o.op = .alloc T ∧ azero P T = some cs ∧ x = .ptr (S.box.length + pa.length) 0 ∧ pa2 = pa ++ [cs] ∧ al2 = al ++ [k]) →
        (isA o = false → pa2 = pa ∧ al2 = al) →
        AWg P ops ix cont (k + 1) l late2 pa2 (putA (TT ops t v k) o.dst x) S →
        ∃ (q : Nat) (v' : Nat → AV) (late' : Late) (pa' : List (List AV)) (al' : List Nat), k ≤ q ∧ (∀ i, i < k → v' i = v i) ∧ Sg P ops ix t S v' p q al' pa' ∧ LateHas ops ix t late' v' q ∧ EndW P ops ix cont q late' pa' (TT ops t v' q) S := by
      intro x late2 pa2 al2 hX hD hA hN hr
      let v1 : Nat → AV := fun i => if i = k then x else v i
      have hv1 : ∀ j, j < k → v1 j = v j := fun j hj => by simp only [v1]; rw [if_neg (by omega)]
      have hvk : v1 k = x := by simp [v1]
      have hTk : TT ops t v1 k = TT ops t v k := TT_congr k hv1
      have h1 : TT ops t v1 (k + 1) = putA (TT ops t v k) o.dst x := by simp only [TT]; rw [hTk, hd, hvk]
      have hs1 := hs.ext hv1
      have hl1 := hlt.ext hv1
      have hsg : Sg P ops ix t S v1 p (k + 1) al2 pa2 := by
        refine ⟨by have := hs.le; omega, hks, ?_, ?_, ?_, ?_, ?_, ?_⟩
        · intro i q1 q2 o' ho'
          by_cases e : i = k
          · subst e; rw [ho] at ho'; cases ho'; exact hX
          · exact hs.noX i q1 (by omega) o' ho'
        · intro i q1 q2 o' ho' ha
          by_cases e : i = k
          · subst e
            rw [ho] at ho'; cases ho'
            intro o'' ho''
            rw [ho] at ho''; cases ho''
            rw [hTk, hvk]
            rcases hD ha with ⟨w1, w2, _⟩ | ⟨w1, w2, _⟩
            · exact .inl ⟨w1, w2⟩
            · exact .inr ⟨w1, w2⟩
          · exact hs1.det i q1 (by omega) o' ho' ha
        · intro m i hm
          cases ha : isA o with
          | false =>
            obtain ⟨e1, e2⟩ := hN ha
            subst e1; subst e2
            obtain ⟨w1, w2, w3⟩ := hs1.alc m i hm
            exact ⟨w1, by omega, w3⟩
          | true =>
            obtain ⟨_, T, cs, w1, w2, w3, e1, e2⟩ := hA ha
            subst e1; subst e2
            by_cases hml : m < al.length
            · rw [List.getElem?_append_left hml] at hm
              obtain ⟨u1, u2, o', T', cs', u3, u4, u5, u6, u7, u8⟩ := hs1.alc m i hm
              exact ⟨u1, by omega, o', T', cs', u3, u4, u5, u6, by rw [List.getElem?_append_left (by rw [← hs.len]; exact hml)]; exact u7, u8⟩
            · rw [List.getElem?_append_right (by omega)] at hm
              have hm0 : m - al.length = 0 := by
                have := (List.getElem?_eq_some_iff.1 hm).1
                simp at this; omega
              rw [hm0] at hm
              simp at hm
              subst hm
              have hmm : m = pa.length := by have := hs.len; omega
              subst hmm
              exact ⟨hs.le, by omega, o, T, cs, ho, ha, w1, w2, by simp, by rw [hvk, w3]⟩
        · intro i q1 q2 o' ho' ha
          by_cases e : i = k
          · subst e
            rw [ho] at ho'; cases ho'
            obtain ⟨_, T, cs, w1, w2, w3, e1, e2⟩ := hA ha
            rw [e2]; simp
          · have hm := hs.all i q1 (by omega) o' ho' ha
            cases ha' : isA o with
            | false => rw [(hN ha').2]; exact hm
            | true =>
              obtain ⟨_, T, cs, w1, w2, w3, e1, e2⟩ := hA ha'
              rw [e2]; simp [hm]
        · cases ha' : isA o with
          | false => rw [(hN ha').2]; exact hs.nodup
          | true =>
            obtain ⟨_, T, cs, w1, w2, w3, e1, e2⟩ := hA ha'
            rw [e2, List.nodup_append]
            refine ⟨hs.nodup, by simp, ?_⟩
            intro a ha b hb
            simp at hb
            subst hb
            intro e; subst e
            obtain ⟨m, hm⟩ := List.mem_iff_getElem?.1 ha
            have := (hs.alc m _ hm).2.1
            omega
        · cases ha' : isA o with
          | false => rw [(hN ha').2, (hN ha').1]; exact hs.len
          | true =>
            obtain ⟨_, T, cs, w1, w2, w3, e1, e2⟩ := hA ha'
            rw [e1, e2]; simp [hs.len]
      have hlh : LateHas ops ix t late2 v1 (k + 1) := by
        intro i hi o' ho' ha hX' hw
        by_cases e : i = k
        · subst e
          rw [ho] at ho'; cases ho'
          rw [hTk] at hw ⊢
          rw [hvk]
          rcases hD ha with ⟨w1, w2, e1⟩ | ⟨w1, w2, e1⟩
          · rw [e1]; exact List.mem_cons_self ..
          · rw [hw] at w1; cases w1
        · have hm := hl1 i (by omega) o' ho' ha hX' hw
          cases ha' : isA o with
          | true => rw [(hA ha').1]; exact hm
          | false =>
            rcases hD ha' with ⟨w1, w2, e1⟩ | ⟨w1, w2, e1⟩
            · rw [e1]; exact List.mem_cons_of_mem _ hm
            · rw [e1]; exact hm
      obtain ⟨q, v', late', pa', al', g1, g2, g3, g4, g5⟩ := AWg_seg l (k + 1) v1 late2 pa2 al2 hl' hks hsg hlh (by rw [h1]; exact hr)
      exact ⟨q, v', late', pa', al', by omega, fun i hi => (g2 i (by omega)).trans (hv1 i hi), g3, g4, g5⟩
    unfold AWg at h
    split at h
    · rename_i ha
      obtain ⟨T, cs, q1, q2, q3⟩ := h
      exact go _ late _ (al ++ [k]) (isA_not_X ha) (fun hh => by rw [ha] at hh; cases hh) (fun _ => ⟨rfl, T, cs, q1, q2, rfl, rfl, rfl⟩) (fun hh => by rw [ha] at hh; cases hh) q3
    · rename_i ha
      have ha : isA o = false := by simpa using ha
      split at h
      · rename_i hx
        have hX : isX ix o = true := by simp [isX, hx, ha]
        refine ⟨k, v, late, pa, al, Nat.le_refl _, fun _ _ => rfl, hs, hlt, .inr ⟨o, ho, hX, ?_⟩⟩
        split at h
        · rename_i hw
          exact .inl ⟨hw, by rw [← hl']; exact h⟩
        · rename_i hw
          exact .inr ⟨by simpa using hw, by rw [← hl']; exact h⟩
      · rename_i hx
        have hX : isX ix o = false := by simp [isX, hx]
        split at h
        · rename_i hw
          obtain ⟨x, h1, h2⟩ := h
          exact go x _ pa al hX (fun _ => .inl ⟨hw, h1, rfl⟩) (fun hh => by rw [ha] at hh; cases hh) (fun _ => ⟨rfl, rfl⟩) h2
        · rename_i hw
          exact go (.tup []) late pa al hX (fun _ => .inr ⟨by simpa using hw, rfl, rfl⟩) (fun hh => by rw [ha] at hh; cases hh) (fun _ => ⟨rfl, rfl⟩) h

/-! ### The real temporaries -/

/-- Which operations have come up. -/
def Up (listed : Array Bool) (i : Nat) : Prop := listed[i]? = some true

theorem up_set {listed : Array Bool} {i j : Nat} (hi : i < listed.size) : Up (listed.setIfInBounds i true) j ↔ (j = i ∨ Up listed j) := by
  unfold Up
  by_cases e : i = j
  · subst e; simp [hi]
  · simp [Array.getElem?_setIfInBounds_ne e, Ne.symm e]

/-- A variable that is laid, and that the abstract state does not know yet. -/
def Pv (ops : Array Oper) (p j : Nat) : Prop := p ≤ j ∧ ∃ o, ops[j]? = some o ∧ isA o = true

structure TRP (K : KW) (ops : Array Oper) (t : List AV) (v : Nat → AV) (E : Nat → Prop) (p : Nat) (loc : Nat → Nat) (a : Act) : Prop where
  size : t.length = a.tmps.size
  done : ∀ (s : Nat) r, a.tmps[s]? = some r → ∀ j, E j → dstOf ops j = some s → ¬ Pv ops p j → VR K (v j) r
  priv : ∀ (s : Nat) r, a.tmps[s]? = some r → ∀ j, E j → dstOf ops j = some s → Pv ops p j → r = .pointer (some ⟨loc j, 0, none⟩)
  old : ∀ (s : Nat) r, a.tmps[s]? = some r → (∀ j, E j → dstOf ops j ≠ some s) → ∀ u, t[s]? = some u → VR K u r

theorem TRP.mono {K K' : KW} {v : Nat → AV} {E : Nat → Prop} {p : Nat} {loc : Nat → Nat} {a : Act} (h : TRP K ops t v E p loc a) (hle : K.le K') : TRP K' ops t v E p loc a :=
  ⟨h.size, fun s r hr j hj hd hp => (h.done s r hr j hj hd hp).mono hle, h.priv, fun s r hr hno u hu => (h.old s r hr hno u hu).mono hle⟩

theorem TRP.val {K : KW} {v x : Nat → AV} {E : Nat → Prop} {p : Nat} {loc : Nat → Nat} {a : Act} (h : TRP K ops t v E p loc a) (hx : ∀ j, E j → ¬ Pv ops p j → x j = v j) : TRP K ops t x E p loc a :=
  ⟨h.size, fun s r hr j hj hd hp => by rw [hx j hj hp]; exact h.done s r hr j hj hd hp, h.priv, h.old⟩

/-- A further operation has come up. -/
theorem TRP.put (hok : DrawOk ops ix) {K : KW} {v : Nat → AV} {E E' : Nat → Prop} {p : Nat} {loc loc' : Nat → Nat} {a : Act} (h : TRP K ops t v E p loc a) {i : Nat} {r : Value}
    (hv : ¬ Pv ops p i → VR K (v i) r) (hp : Pv ops p i → r = .pointer (some ⟨loc' i, 0, none⟩)) (hl : ∀ j, E j → Pv ops p j → loc' j = loc j) (hE : ∀ j, E' j ↔ (j = i ∨ E j)) (hi : ¬ E i) :
    TRP K ops t v E' p loc' (a.put (dstOf ops i) r) := by
  cases hd : dstOf ops i with
  | none =>
    refine ⟨h.size, fun s q hq j hj hdj hpj => ?_, fun s q hq j hj hdj hpj => ?_, fun s q hq hno u hu => h.old s q hq (fun j hj => hno j ((hE j).2 (.inr hj))) u hu⟩
    · rcases (hE j).1 hj with rfl | hj
      · rw [hd] at hdj; cases hdj
      · exact h.done s q hq j hj hdj hpj
    · rcases (hE j).1 hj with rfl | hj
      · rw [hd] at hdj; cases hdj
      · rw [hl j hj hpj]; exact h.priv s q hq j hj hdj hpj
  | some d =>
    have key : ∀ (s : Nat) (q : Value), (a.put (some d) r).tmps[s]? = some q → (s = d ∧ q = r) ∨ (s ≠ d ∧ a.tmps[s]? = some q) := by
      intro s q hq
      simp only [Act.put] at hq
      by_cases hs : d = s
      · subst hs
        have hlt : d < a.tmps.size := by have := (Array.getElem?_eq_some_iff.1 hq).1; simpa using this
        rw [Array.getElem?_setIfInBounds_self_of_lt hlt] at hq
        cases hq; exact .inl ⟨rfl, rfl⟩
      · rw [Array.getElem?_setIfInBounds_ne hs] at hq
        exact .inr ⟨Ne.symm hs, hq⟩
    refine ⟨by simp [Act.put, h.size], fun s q hq j hj hdj hpj => ?_, fun s q hq j hj hdj hpj => ?_, fun s q hq hno u hu => ?_⟩
    · rcases key s q hq with ⟨rfl, rfl⟩ | ⟨hs, hq⟩
      · have hji : j = i := hok.uniq j i s hdj hd
        subst hji
        exact hv hpj
      · rcases (hE j).1 hj with rfl | hj
        · rw [hd] at hdj; cases hdj; exact absurd rfl hs
        · exact h.done s q hq j hj hdj hpj
    · rcases key s q hq with ⟨rfl, rfl⟩ | ⟨hs, hq⟩
      · have hji : j = i := hok.uniq j i s hdj hd
        subst hji
        exact hp hpj
      · rcases (hE j).1 hj with rfl | hj
        · rw [hd] at hdj; cases hdj; exact absurd rfl hs
        · rw [hl j hj hpj]; exact h.priv s q hq j hj hdj hpj
    · rcases key s q hq with ⟨rfl, rfl⟩ | ⟨hs, hq⟩
      · exact absurd hd (hno i ((hE i).2 (.inl rfl)))
      · exact h.old s q hq (fun j hj => hno j ((hE j).2 (.inr hj))) u hu

/-- An operation that may come up sees what it sees in the order of the text. -/
theorem TRP.sees (hok : DrawOk ops ix) {K : KW} {v : Nat → AV} {E : Nat → Prop} {p : Nat} {loc : Nat → Nat} {a : Act} (h : TRP K ops t v E p loc a) (hE : ∀ (k : Nat), E k → ∀ o', ops[k]? = some o' → ∀ d ∈ odeps o', E d)
    {i : Nat} {o : Oper} (ho : ops[i]? = some o) (hi : ¬ E i) (hd : ∀ d ∈ odeps o, E d) (s : Nat) (hs : s ∈ o.looksAt ops) (hp : ∀ j, j < i → dstOf ops j = some s → ¬ Pv ops p j) :
    (s < t.length ↔ s < a.tmps.size) ∧ ∀ u r, (TT ops t v i)[s]? = some u → a.tmps[s]? = some r → VR K u r := by
  refine ⟨by rw [h.size], fun u r hu hr => ?_⟩
  have hst : s < t.length := by rw [← TT_length (ops := ops) (t := t) v i]; exact (List.getElem?_eq_some_iff.1 hu).1
  by_cases hex : ∃ j, j < i ∧ dstOf ops j = some s
  · obtain ⟨j, hji, hj⟩ := hex
    have hEj : E j := hok.seen i o ho s hs j hj hji E hE hd
    rw [(TT_get hok v s i).1 j hji hj hst] at hu
    cases hu
    exact h.done s r hr j hEj hj (hp j hji hj)
  · rw [(TT_get hok v s i).2 (fun j hj e => hex ⟨j, hj, e⟩)] at hu
    refine h.old s r hr (fun j hEj e => ?_) u hu
    by_cases hji : j < i
    · exact hex ⟨j, hji, e⟩
    · by_cases hij : j = i
      · subst hij; exact hi hEj
      · obtain ⟨o', ho', _⟩ := dst_lt e
        exact hi (hok.unseen i o ho s hs j o' ho' e (by omega) E hE (fun d hdd => hE j hEj o' ho' d hdd))

theorem mem_looks {o : Oper} {i : Nat} (h : Operand.tmp i ∈ o.op.operands) : i ∈ o.looksAt ops := by
  unfold Oper.looksAt
  exact List.mem_append_left _ (List.mem_filterMap.2 ⟨.tmp i, by simpa using h, rfl⟩)

theorem TRP.tro (hok : DrawOk ops ix) {K : KW} {v : Nat → AV} {E : Nat → Prop} {p : Nat} {loc : Nat → Nat} {a : Act} (h : TRP K ops t v E p loc a) (hE : ∀ (k : Nat), E k → ∀ o', ops[k]? = some o' → ∀ d ∈ odeps o', E d)
    {i : Nat} {o : Oper} (ho : ops[i]? = some o) (hi : ¬ E i) (hd : ∀ d ∈ odeps o, E d) (hp : ∀ s ∈ o.looksAt ops, ∀ j, j < i → dstOf ops j = some s → ¬ Pv ops p j) : TRo K o (TT ops t v i) a := by
  refine ⟨fun x hx hm => ?_⟩
  cases x with
  | tmp s =>
    obtain ⟨h1, h2⟩ := h.sees hok hE ho hi hd s (mem_looks hm) (hp s (mem_looks hm))
    simp only [Av.ev, Act.eval]
    by_cases hs : s < (TT ops t v i).length
    · have hs' : s < a.tmps.size := h1.1 (by rw [← TT_length (ops := ops) (t := t) v i]; exact hs)
      rw [List.getD_eq_getElem?_getD, List.getElem?_eq_getElem hs, Array.getD_eq_getD_getElem?, Array.getElem?_eq_getElem hs']
      exact h2 _ _ (List.getElem?_eq_getElem hs) (Array.getElem?_eq_getElem hs')
    · have hs' : ¬ s < a.tmps.size := fun hq => hs (by rw [TT_length]; exact h1.2 hq)
      rw [List.getD_eq_getElem?_getD, List.getElem?_eq_none (Nat.le_of_not_lt hs), Array.getD_eq_getD_getElem?, Array.getElem?_eq_none (Nat.le_of_not_lt hs')]
      exact VR.undef K
  | const c =>
    have : TR K [] #[] := ⟨rfl, fun i v r h => by simp at h⟩
    have := TR.ev (a := { tmps := #[], defers := [] }) this (.const c) hx
    exact this
  | global g => exact .sc rfl
  | func f => exact .clo rfl rfl (fun i c r h => by simp at h) (fun i c r h => by simp at h)

theorem TRP.wanted (hok : DrawOk ops ix) {K : KW} {v : Nat → AV} {E : Nat → Prop} {p : Nat} {loc : Nat → Nat} {a : Act} (h : TRP K ops t v E p loc a) (hE : ∀ (k : Nat), E k → ∀ o', ops[k]? = some o' → ∀ d ∈ odeps o', E d)
    {i : Nat} {o : Oper} (ho : ops[i]? = some o) (hi : ¬ E i) (hd : ∀ d ∈ odeps o, E d) (hp : ∀ s ∈ o.looksAt ops, ∀ j, j < i → dstOf ops j = some s → ¬ Pv ops p j) : Region.wanted o (yielded ops a.tmps) = awanted ops (TT ops t v i) o := by
  unfold Region.wanted awanted
  cases hg : o.guard with
  | none => rfl
  | some q =>
    obtain ⟨j, want⟩ := q
    simp only
    rw [yielded_bind]
    unfold ayield
    cases hdj : (ops[j]?).bind (·.dst) with
    | none => rfl
    | some s =>
      simp only [Option.bind_some]
      have hsl : s ∈ o.looksAt ops := by
        unfold Oper.looksAt
        refine List.mem_append_right _ ?_
        rw [hg]
        simp [hdj]
      obtain ⟨h1, h2⟩ := h.sees hok hE ho hi hd s hsl (hp s hsl)
      by_cases hs : s < (TT ops t v i).length
      · have hs' : s < a.tmps.size := h1.1 (by rw [← TT_length (ops := ops) (t := t) v i]; exact hs)
        rw [List.getElem?_eq_getElem hs, Array.getElem?_eq_getElem hs']
        simp only [Option.bind_some]
        rw [(h2 _ _ (List.getElem?_eq_getElem hs) (Array.getElem?_eq_getElem hs')).boolOf]
      · have hs' : ¬ s < a.tmps.size := fun hq => hs (by rw [TT_length]; exact h1.2 hq)
        rw [List.getElem?_eq_none (Nat.le_of_not_lt hs), Array.getElem?_eq_none (Nat.le_of_not_lt hs')]
        rfl

/-- All have come up: the temporaries are those of the text. -/
theorem TRP.all (hok : DrawOk ops ix) {K : KW} {v : Nat → AV} {E : Nat → Prop} {loc : Nat → Nat} {a : Act} {n : Nat} (h : TRP K ops t v E n loc a) (hE : ∀ j, E j ↔ j < n) : TR K (TT ops t v n) a.tmps := by
  refine ⟨by rw [TT_length, h.size], fun s u r hu hr => ?_⟩
  have hst : s < t.length := by rw [← TT_length (ops := ops) (t := t) v n]; exact (List.getElem?_eq_some_iff.1 hu).1
  by_cases hex : ∃ j, j < n ∧ dstOf ops j = some s
  · obtain ⟨j, hj, hd⟩ := hex
    rw [(TT_get hok v s n).1 j hj hd hst] at hu
    cases hu
    exact h.done s r hr j ((hE j).2 hj) hd (fun hp => by have := hp.1; omega)
  · rw [(TT_get hok v s n).2 (fun j hj e => hex ⟨j, hj, e⟩)] at hu
    exact h.old s r hr (fun j hj e => hex ⟨j, (hE j).1 hj, e⟩) u hu

end
end Go.Proofs.Ytfjeopaaplnoaaa.Av
