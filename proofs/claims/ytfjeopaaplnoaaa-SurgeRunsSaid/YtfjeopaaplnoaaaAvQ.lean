/-
  THE ABSTRACT WALK BY RECKONING (2): code.
-/
import Derived.Test.YtfjeopaaplnoaaaAvP
namespace Go.Proofs.Ytfjeopaaplnoaaa.Av
open Go Go.RowKit
set_option linter.unusedSimpArgs false
set_option linter.unusedVariables false

/-- Operations that leave the abstract state as it is (a call: if its function does). -/
def detOp : Op → Bool
  | .move _ | .assign _ | .pick .. | .load .. | .build .. | .buildSlice .. | .nilCheck _ | .binOp .. | .unOp .. | .makeFunc .. | .fieldAddr .. | .field .. | .indexAddr .. | .index .. | .extract .. | .slice .. => true
  | .call { callee := .value _, .. } => true
  | .call { callee := .builtin .len, .. } | .call { callee := .builtin .max, .. } | .call { callee := .builtin .min, .. } => true
  | _ => false

def drawN (ops : Array Oper) : Nat := (ops.toList.takeWhile fun o => detOp o.op).length

/-- One of them, and the value that it yields. -/
def adetw (P : Program) (o : Oper) (e : Operand → AV) (S : AS) (R : AV → Prop) : Prop :=
  match o.op with
  | .call { callee := .value f, args := args, argTypes := _ } => callW P (e f) (args.toList.map e) R
  | _ => aopw P o e S (fun v S' => S' = S ∧ R v)

theorem aint_det {op : BinOp} {k : IntKind} {a b : Int} {R : Value → Prop} (h : aintw op k a b R) : ∃ v, R v ∧ ∀ R' : Value → Prop, R' v → aintw op k a b R' := by
  cases op <;> simp only [aintw] at h ⊢ <;> first
    | exact h.elim
    | exact ⟨_, h, fun _ h' => h'⟩
    | exact ⟨_, h.2, fun _ h' => ⟨h.1, h'⟩⟩

theorem eqlR_det {op : BinOp} {b : Bool} {R : AV → Prop} (h : eqlR op b R) : ∃ v, R v ∧ ∀ R' : AV → Prop, R' v → eqlR op b R' := by
  cases op <;> simp only [eqlR] at h ⊢ <;> first
    | exact h.elim
    | exact ⟨_, h, fun _ h' => h'⟩

theorem abin_det {P : Program} {op : BinOp} {T : TypeId} {X Y : AV} {R : AV → Prop} (h : abinw P op T X Y R) : ∃ v, R v ∧ ∀ R' : AV → Prop, R' v → abinw P op T X Y R' := by
  unfold abinw at h ⊢
  split at h
  · obtain ⟨h1, h2⟩ := h
    obtain ⟨v, q1, q2⟩ := aint_det h2
    exact ⟨_, q1, fun R' h' => ⟨h1, q2 (fun v => R' (.sc v)) h'⟩⟩
  · obtain ⟨v, q1, q2⟩ := eqlR_det h.2
    exact ⟨v, q1, fun R' h' => ⟨h.1, q2 R' h'⟩⟩
  · obtain ⟨r, hr, h⟩ := h
    obtain ⟨v, q1, q2⟩ := eqlR_det h
    exact ⟨v, q1, fun R' h' => ⟨r, hr, q2 R' h'⟩⟩
  · obtain ⟨v, q1, q2⟩ := eqlR_det h.2
    exact ⟨v, q1, fun R' h' => ⟨h.1, q2 R' h'⟩⟩
  · obtain ⟨v, q1, q2⟩ := eqlR_det h.2
    exact ⟨v, q1, fun R' h' => ⟨h.1, q2 R' h'⟩⟩
  · obtain ⟨v, q1, q2⟩ := eqlR_det h.2
    exact ⟨v, q1, fun R' h' => ⟨h.1, q2 R' h'⟩⟩
  · obtain ⟨v, q1, q2⟩ := eqlR_det h.2
    exact ⟨v, q1, fun R' h' => ⟨h.1, q2 R' h'⟩⟩
  · exact h.elim

section
variable {P : Program} {o : Oper} {t : List AV} {en : Operand → AV} {S : AS}

theorem aopw_det {R : AV → Prop} (hd : detOp o.op = true) (hc : ∀ f as Ts, o.op ≠ .call { callee := .value f, args := as, argTypes := Ts }) (h : aopw P o en S (fun v S' => S' = S ∧ R v)) :
    ∃ v, R v ∧ aopw P o en S (fun v' S' => v' = v ∧ S' = S) := by
  unfold aopw at h ⊢
  split at h
  case h_1 => exact ⟨_, h.2, rfl, rfl⟩
  case h_2 => exact ⟨_, h.2, rfl, rfl⟩
  case h_3 =>
    split at h
    · rename_i b hb
      cases b with
      | true => exact ⟨_, (h.t rfl).2, ⟨fun _ => ⟨rfl, rfl⟩, fun k => by cases k⟩⟩
      | false => exact ⟨_, (h.f rfl).2, ⟨fun k => (by cases k), fun _ => ⟨rfl, rfl⟩⟩⟩
    · exact h.elim
  case h_4 T ho => rw [ho] at hd; cases hd
  case h_5 T x ho => rw [ho] at hd; cases hd
  case h_6 =>
    split at h
    · exact ⟨_, h.2, rfl, rfl⟩
    · exact h.elim
  case h_7 =>
    obtain ⟨st, hs, h1, h2, h3, h4⟩ := h
    exact ⟨_, h4.2, st, hs, h1, h2, h3, rfl, rfl⟩
  case h_8 =>
    split at h
    · exact ⟨_, h.2, rfl, rfl⟩
    · exact h.elim
  case h_9 T x y ho => rw [ho] at hd; cases hd
  case h_10 =>
    split at h
    · exact ⟨_, h.2, rfl, rfl⟩
    · exact h.elim
  case h_11 =>
    obtain ⟨v, q1, q2⟩ := abin_det h
    exact ⟨v, q1.2, q2 _ ⟨rfl, rfl⟩⟩
  case h_12 =>
    split at h
    · exact ⟨_, h.2, rfl, rfl⟩
    · exact h.elim
  case h_13 =>
    split at h
    · exact ⟨_, h.2, rfl, rfl⟩
    · exact h.elim
  case h_14 => exact ⟨_, h.2, rfl, rfl⟩
  case h_15 =>
    split at h
    · split at h
      · exact ⟨_, h.2, rfl, rfl⟩
      · exact h.elim
    · exact h.elim
  case h_16 =>
    split at h
    · split at h
      · rename_i hv
        exact ⟨_, h.2, by simp [hv]⟩
      · exact h.elim
    · exact h.elim
  case h_17 =>
    split at h
    · obtain ⟨h1, h2, v, h3, h4⟩ := h
      exact ⟨_, h4.2, h1, h2, someW_of h3 ⟨rfl, rfl⟩⟩
    · split at h
      · exact ⟨_, h.2.2.2, h.1, h.2.1, rfl, rfl⟩
      · exact h.elim
    · exact h.elim
  case h_18 =>
    split at h
    · obtain ⟨h1, h2, v, h3, h4⟩ := h
      exact ⟨_, h4.2, h1, h2, someW_of h3 ⟨rfl, rfl⟩⟩
    · exact h.elim
  case h_19 =>
    split at h
    · split at h
      · rename_i hv
        exact ⟨_, h.2, by simp [hv]⟩
      · exact h.elim
    · exact h.elim
  case h_20 =>
    split at h
    · obtain ⟨h1, l, hh, h2, h3, h4, h5, h6⟩ := h
      exact ⟨_, h6.2, h1, l, hh, h2, h3, h4, h5, rfl, rfl⟩
    · exact ⟨_, h.2.2.2.2, h.1, h.2.1, h.2.2.1, rfl, rfl⟩
    · exact h.elim
  case h_21 =>
    split at h
    · exact ⟨_, h.2.2, h.1, rfl, rfl⟩
    · exact ⟨_, h.2.2, h.1, rfl, rfl⟩
    · exact h.elim
  case h_22 f as Ts ho => exact absurd ho (hc f as Ts)
  case h_23 b as Ts ho =>
    unfold abuiltinw at h ⊢
    split at h
    · split at h
      · split at h
        · rename_i hv
          exact ⟨_, h.2, by simp [hv]⟩
        · exact h.elim
      · split at h
        · rename_i hv
          exact ⟨_, h.2, by simp [hv]⟩
        · exact h.elim
      · exact h.elim
    · split at h
      · exact ⟨_, h.2, rfl, rfl⟩
      · exact h.elim
    · split at h
      · exact ⟨_, h.2, rfl, rfl⟩
      · exact h.elim
    · rw [ho] at hd; cases hd
    · exact h.elim
  case h_24 => exact h.elim

theorem aopw_pure {R' : AV → Prop} {v : AV} (hd : detOp o.op = true) (hc : ∀ f as Ts, o.op ≠ .call { callee := .value f, args := as, argTypes := Ts }) (h : aopw P o en S (fun v' S' => v' = v ∧ S' = S)) (hr : R' v) :
    aopw P o en S (fun v S' => S' = S ∧ R' v) := by
  unfold aopw at h ⊢
  split at h
  case h_1 => obtain ⟨rfl, _⟩ := h; exact ⟨rfl, hr⟩
  case h_2 => obtain ⟨rfl, _⟩ := h; exact ⟨rfl, hr⟩
  case h_3 =>
    split at h
    · exact ⟨fun k => ⟨rfl, (h.t k).1 ▸ hr⟩, fun k => ⟨rfl, (h.f k).1 ▸ hr⟩⟩
    · exact h.elim
  case h_4 T ho => rw [ho] at hd; cases hd
  case h_5 T x ho => rw [ho] at hd; cases hd
  case h_6 =>
    split at h
    · obtain ⟨rfl, _⟩ := h; exact ⟨rfl, hr⟩
    · exact h.elim
  case h_7 =>
    obtain ⟨st, hs, h1, h2, h3, rfl, _⟩ := h
    exact ⟨st, hs, h1, h2, h3, rfl, hr⟩
  case h_8 =>
    split at h
    · obtain ⟨rfl, _⟩ := h; exact ⟨rfl, hr⟩
    · exact h.elim
  case h_9 T x y ho => rw [ho] at hd; cases hd
  case h_10 =>
    split at h
    · obtain ⟨rfl, _⟩ := h; exact ⟨rfl, hr⟩
    · exact h.elim
  case h_11 =>
    obtain ⟨u, q1, q2⟩ := abin_det h
    obtain ⟨rfl, _⟩ := q1
    exact q2 _ ⟨rfl, hr⟩
  case h_12 =>
    split at h
    · obtain ⟨rfl, _⟩ := h; exact ⟨rfl, hr⟩
    · exact h.elim
  case h_13 =>
    split at h
    · obtain ⟨rfl, _⟩ := h; exact ⟨rfl, hr⟩
    · exact h.elim
  case h_14 => obtain ⟨rfl, _⟩ := h; exact ⟨rfl, hr⟩
  case h_15 =>
    split at h
    · split at h
      · obtain ⟨rfl, _⟩ := h; exact ⟨rfl, hr⟩
      · exact h.elim
    · exact h.elim
  case h_16 =>
    split at h
    · split at h
      · obtain ⟨rfl, _⟩ := h; exact ⟨rfl, hr⟩
      · exact h.elim
    · exact h.elim
  case h_17 =>
    split at h
    · obtain ⟨h1, h2, u, h3, rfl, _⟩ := h; exact ⟨h1, h2, someW_of h3 ⟨rfl, hr⟩⟩
    · split at h
      · obtain ⟨h1, h2, rfl, _⟩ := h; exact ⟨h1, h2, rfl, hr⟩
      · exact h.elim
    · exact h.elim
  case h_18 =>
    split at h
    · obtain ⟨h1, h2, u, h3, rfl, _⟩ := h; exact ⟨h1, h2, someW_of h3 ⟨rfl, hr⟩⟩
    · exact h.elim
  case h_19 =>
    split at h
    · split at h
      · obtain ⟨rfl, _⟩ := h; exact ⟨rfl, hr⟩
      · exact h.elim
    · exact h.elim
  case h_20 =>
    split at h
    · obtain ⟨h1, l, hh, h2, h3, h4, h5, rfl, _⟩ := h; exact ⟨h1, l, hh, h2, h3, h4, h5, rfl, hr⟩
    · obtain ⟨h1, h2, h3, rfl, _⟩ := h; exact ⟨h1, h2, h3, rfl, hr⟩
    · exact h.elim
  case h_21 =>
    split at h
    · obtain ⟨h1, rfl, _⟩ := h; exact ⟨h1, rfl, hr⟩
    · obtain ⟨h1, rfl, _⟩ := h; exact ⟨h1, rfl, hr⟩
    · exact h.elim
  case h_22 f as Ts ho => exact absurd ho (hc f as Ts)
  case h_23 b as Ts ho =>
    unfold abuiltinw at h ⊢
    split at h
    · split at h
      · split at h
        · obtain ⟨rfl, _⟩ := h; exact ⟨rfl, hr⟩
        · exact h.elim
      · split at h
        · obtain ⟨rfl, _⟩ := h; exact ⟨rfl, hr⟩
        · exact h.elim
      · exact h.elim
    · split at h
      · obtain ⟨rfl, _⟩ := h; exact ⟨rfl, hr⟩
      · exact h.elim
    · split at h
      · obtain ⟨rfl, _⟩ := h; exact ⟨rfl, hr⟩
      · exact h.elim
    · rw [ho] at hd; cases hd
    · exact h.elim
  case h_24 => exact h.elim

/-- Operations that do not ask for the state at all. -/
def indepOp : Op → Bool
  | .load .. => false
  | o => detOp o

theorem abuiltinw_indep {b : Builtin} {xs : List Operand} {Ts : List TypeId} {v : AV} (hb : b = .len ∨ b = .max ∨ b = .min) (h : abuiltinw P b xs Ts en S (fun v' S' => v' = v ∧ S' = S)) (S2 : AS) : abuiltinw P b xs Ts en S2 (fun v' S' => v' = v ∧ S' = S2) := by
  unfold abuiltinw at h ⊢
  split at h
  · split at h
    · split at h
      · exact ⟨h.1, rfl⟩
      · exact h.elim
    · split at h
      · exact ⟨h.1, rfl⟩
      · exact h.elim
    · exact h.elim
  · split at h
    · exact ⟨h.1, rfl⟩
    · exact h.elim
  · split at h
    · exact ⟨h.1, rfl⟩
    · exact h.elim
  · rcases hb with hb | hb | hb <;> cases hb
  · exact h.elim

theorem aopw_indep {v : AV} (hd : indepOp o.op = true) (hc : ∀ f as Ts, o.op ≠ .call { callee := .value f, args := as, argTypes := Ts }) (h : aopw P o en S (fun v' S' => v' = v ∧ S' = S)) (S2 : AS) :
    aopw P o en S2 (fun v' S' => v' = v ∧ S' = S2) := by
  unfold aopw at h ⊢
  split at h
  case h_4 ho => rw [ho] at hd; cases hd
  case h_5 ho => rw [ho] at hd; cases hd
  case h_8 ho => rw [ho] at hd; cases hd
  case h_9 ho => rw [ho] at hd; cases hd
  case h_7 =>
    obtain ⟨st, hs, h1, h2, h3, h4, _⟩ := h
    exact ⟨st, hs, h1, h2, h3, h4, rfl⟩
  case h_11 =>
    obtain ⟨u, q1, q2⟩ := abin_det h
    obtain ⟨rfl, _⟩ := q1
    exact q2 _ ⟨rfl, rfl⟩
  case h_17 =>
    split at h
    · obtain ⟨h1, h2, u, h3, rfl, _⟩ := h; exact ⟨h1, h2, someW_of h3 ⟨rfl, rfl⟩⟩
    · split at h
      · obtain ⟨h1, h2, rfl, _⟩ := h; exact ⟨h1, h2, rfl, rfl⟩
      · exact h.elim
    · exact h.elim
  case h_18 =>
    split at h
    · obtain ⟨h1, h2, u, h3, rfl, _⟩ := h; exact ⟨h1, h2, someW_of h3 ⟨rfl, rfl⟩⟩
    · exact h.elim
  case h_20 =>
    split at h
    · obtain ⟨h1, l, hh, h2, h3, h4, h5, rfl, _⟩ := h; exact ⟨h1, l, hh, h2, h3, h4, h5, rfl, rfl⟩
    · obtain ⟨h1, h2, h3, rfl, _⟩ := h; exact ⟨h1, h2, h3, rfl, rfl⟩
    · exact h.elim
  case h_21 =>
    split at h
    · obtain ⟨h1, rfl, _⟩ := h; exact ⟨h1, rfl, rfl⟩
    · obtain ⟨h1, rfl, _⟩ := h; exact ⟨h1, rfl, rfl⟩
    · exact h.elim
  case h_22 f as Ts ho => exact absurd ho (hc f as Ts)
  case h_23 b as Ts ho =>
    rw [ho] at hd
    refine abuiltinw_indep ?_ h S2
    unfold indepOp detOp at hd
    split at hd <;> first | (cases hd; done) | (split at hd <;> simp_all)
  case h_24 => exact h.elim
  all_goals first
    | exact ⟨h.1, rfl⟩
    | (split at h <;> first
        | exact ⟨h.1, rfl⟩
        | exact ⟨fun k => ⟨(h.t k).1, rfl⟩, fun k => ⟨(h.f k).1, rfl⟩⟩
        | exact h.elim
        | (split at h <;> first
            | exact ⟨h.1, rfl⟩
            | exact h.elim))

theorem adetw_sound {R : AV → Prop} (hok : okOp o = true) (hd : detOp o.op = true) (h : adetw P o (ev t) S R) : ∃ v, ADet P o t S v ∧ R v ∧ ((∀ S2, ADet P o t S2 v) ∨ indepOp o.op = false) := by
  unfold adetw at h
  split at h
  · rename_i f as Ts ho
    unfold callW at h
    split at h
    · rename_i g fs cs e
      obtain ⟨v, h1, h2⟩ := h
      have key : ∀ S2, ADet P o t S2 v := fun S2 => by
        refine aopw_sound hok ?_
        unfold aopw
        simp only [ho]
        unfold ACallV
        simp only [e]
        exact ⟨h1 S2⟩
      exact ⟨v, key S, h2, .inl key⟩
    · exact h.elim
  · rename_i hc
    obtain ⟨v, h1, h2⟩ := aopw_det hd (fun f as Ts e => hc f as Ts e) h
    refine ⟨v, aopw_sound hok h2, h1, ?_⟩
    cases hi : indepOp o.op with
    | true => exact .inl fun S2 => aopw_sound hok (aopw_indep hi (fun f as Ts e => hc f as Ts e) h2 S2)
    | false => exact .inr rfl

end

/-! ### Code -/

/-- A test: what is to show on either way. -/
def ifB (c : Bool) (A B : Prop) : Prop := (c = true → A) ∧ (c = false → B)

theorem ifB_true (A B : Prop) : ifB true A B = A := by simp [ifB]
theorem ifB_false (A B : Prop) : ifB false A B = B := by simp [ifB]
theorem ifB_of_true {c : Bool} {A B : Prop} (h : c = true) (ha : A) : ifB c A B := by subst h; exact ⟨fun _ => ha, fun h => by cases h⟩
theorem ifB_of_false {c : Bool} {A B : Prop} (h : c = false) (hb : B) : ifB c A B := by subst h; exact ⟨(fun h => by cases h), fun _ => hb⟩
theorem ifB_pos {p : Prop} [Decidable p] {A B : Prop} (h : p) (ha : A) : ifB (decide p) A B := ifB_of_true (by simpa using h) ha
theorem ifB_neg {p : Prop} [Decidable p] {A B : Prop} (h : ¬ p) (hb : B) : ifB (decide p) A B := ifB_of_false (by simpa using h) hb
theorem ifB_split {c : Bool} {A B : Prop} (ha : c = true → A) (hb : c = false → B) : ifB c A B := ⟨ha, hb⟩
theorem ifB_dec {p : Prop} [Decidable p] {A B : Prop} (ha : p → A) (hb : ¬ p → B) : ifB (decide p) A B := ⟨fun h => ha (by simpa using h), fun h => hb (by simpa using h)⟩
theorem ifB_some_true (b : Bool) (A B : Prop) : ifB (some b == some true) A B = ifB b A B := by cases b <;> simp [ifB]
theorem ifB_some_false (b : Bool) (A B : Prop) : ifB (some b == some false) A B = ifB b B A := by cases b <;> simp [ifB]
@[congr] theorem ifB_congr {c c' : Bool} {A B : Prop} (h : c = c') : ifB c A B = ifB c' A B := by rw [h]

def AWe (P : Program) (ops : Array Oper) (Q : List AV → AS → Prop) : List Oper → List AV → AS → Prop
  | [], t, S => Q t S
  | o :: l, t, S => ifB (awanted ops t o) (aopw P o (ev t) S (fun v S' => AWe P ops Q l (putA t o.dst v) S')) (AWe P ops Q l (putA t o.dst (.tup [])) S)

/-- What may turn the state, and is no variable that is laid. -/
def ixD (o : Oper) : Bool := !detOp o.op

/-- A region that draws its order, in the order of the text. -/
def AWdx (P : Program) (ops : Array Oper) (Q : List AV → AS → Prop) : List Oper → List (List AV) → List AV → AS → Prop
  | [], pa, t, S => Q t (S.pushes pa)
  | o :: l, pa, t, S =>
    if isA o = true then match o.op with
      | .alloc T => match azero P T with
        | some cs => AWdx P ops Q l (pa ++ [cs]) (putA t o.dst (.ptr (S.box.length + pa.length) 0)) S
        | none => False
      | _ => False
    else if ixD o = true then
      ifB (awanted ops t o) (aopw P o (ev t) (S.pushes pa) (fun v S' => AWdx P ops Q l [] (putA t o.dst v) S'))
        (AWdx P ops Q l [] (putA t o.dst (.tup [])) (S.pushes pa))
    else ifB (awanted ops t o) (adetw P o (ev t) S (fun v => AWdx P ops Q l pa (putA t o.dst v) S))
      (AWdx P ops Q l pa (putA t o.dst (.tup [])) S)

/-- No load may come up behind what turns the state. -/
def noLate (ops : Array Oper) (ix : Oper → Bool) : Bool :=
  let ms := masksOf ops
  (List.range ops.size).all fun k => !((ops.toList.map (isX ix)).getD k false) || (List.range k).all fun i => ((ops.toList.map fun o => indepOp o.op || ix o || isA o).getD i true) || (ms.getD k 0).testBit i

theorem noLate_spec {ops : Array Oper} {ix : Oper → Bool} (h : noLate ops ix = true) {k i : Nat} {o o' : Oper} (hk : ops[k]? = some o) (hx : isX ix o = true) (hi : ops[i]? = some o') (hik : i < k) (hn : indepOp o'.op = false) (hx' : ix o' = false) (ha' : isA o' = false) : waits ops k i = true := by
  unfold noLate at h
  simp only [List.all_eq_true, List.mem_range] at h
  have := h k (Array.getElem?_eq_some_iff.1 hk).1
  rw [map_getD ops (isX ix) k false hk, hx] at this
  simp only [Bool.not_true, Bool.false_or, List.all_eq_true, List.mem_range] at this
  have := this i hik
  rw [map_getD ops (fun o => indepOp o.op || ix o || isA o) i true hi, hn, hx', ha'] at this
  simpa [waits] using this

def LateInv (P : Program) (ops : Array Oper) (ix : Oper → Bool) (k : Nat) (late : Late) : Prop :=
  ∀ q ∈ late, (∀ S, ADet P q.2.1 q.2.2.1 S q.2.2.2) ∨ (q.1 < k ∧ ops[q.1]? = some q.2.1 ∧ indepOp q.2.1.op = false ∧ ix q.2.1 = false ∧ isA q.2.1 = false)

theorem LateInv.ok {P : Program} {ops : Array Oper} {ix : Oper → Bool} {k : Nat} {late : Late} (h : LateInv P ops ix k late) (hn : noLate ops ix = true) {o : Oper} (hk : ops[k]? = some o) (hx : isX ix o = true) (S : AS) : LateOk P late (waits ops k) S := by
  intro q hq hw
  rcases h q hq with h | ⟨h1, h2, h3, h4, h5⟩
  · exact h S
  · rw [noLate_spec hn hk hx h2 h1 h3 h4 h5] at hw; cases hw

theorem LateInv.succ {P : Program} {ops : Array Oper} {ix : Oper → Bool} {k : Nat} {late : Late} (h : LateInv P ops ix k late) : LateInv P ops ix (k + 1) late := fun q hq => (h q hq).imp id fun ⟨h1, h2⟩ => ⟨by omega, h2⟩

def awp (P : Program) : Code → (Exit → List AV → AS → Prop) → List AV → AS → Prop
  | .skip, Q, t, S => Q .normal t S
  | .label _, Q, t, S => Q .normal t S
  | .seq a b, Q, t, S => awp P a (thenQ (awp P b Q) Q) t S
  | .cond x a b, Q, t, S => match ev t x with
    | .sc (.bool c) => ifB c (awp P a Q t S) (awp P b Q t S)
    | _ => False
  | .block id c, Q, t, S => awp P c (blockQ id Q) t S
  | .exit id, Q, t, S => Q (.exit id) t S
  | .ret, Q, t, S => Q .ret t S
  | .region _ ops false, Q, t, S => AWe P ops (Q .normal) ops.toList t S
  | .region _ ops true, Q, t, S => AWdx P ops (Q .normal) ops.toList [] t S
  | .loop c, Q, t, S => AWl P c Q t S
  | .rangeFunc f ps x c, Q, t, S => AW P (.rangeFunc f ps x c) Q t S
  | _, _, _, _ => False

/-- What is asked of a program's text once: by the kernel. -/
def codeOk (P : Program) : Code → Bool
  | .seq a b => codeOk P a && codeOk P b
  | .cond x a b => okConst x && codeOk P a && codeOk P b
  | .block _ c => codeOk P c
  | .region _ ops false => ops.toList.all okOp
  | .region _ ops true => ops.toList.all okOp && (drawOk ops ixD && (allocOk P ops && noLate ops ixD))
  | _ => true

/-- The same without the demand on late loads. -/
def codeR (P : Program) : Code → Bool
  | .seq a b => codeR P a && codeR P b
  | .cond x a b => okConst x && codeR P a && codeR P b
  | .block _ c => codeR P c
  | .region _ ops false => ops.toList.all okOp
  | .region _ ops true => ops.toList.all okOp && (drawOk ops ixD && allocOk P ops)
  | _ => true

section
variable {P : Program}

theorem AW.congr {c : Code} {Q Q' : Exit → List AV → AS → Prop} {t : List AV} {S : AS} (h : AW P c Q t S) (hq : ∀ e t S, Q e t S → Q' e t S) : AW P c Q' t S := h.mono hq

theorem AWo_mono {ops : Array Oper} {Q Q' : List AV → AS → Prop} (hq : ∀ t S, Q t S → Q' t S) : ∀ (l : List Oper) (t : List AV) (S : AS), AWo P ops Q l t S → AWo P ops Q' l t S
  | [], t, S, h => hq t S h
  | o :: l, t, S, h => by
    unfold AWo at h ⊢
    split
    · rename_i hw
      rw [if_pos hw] at h
      refine ⟨h.1, fun rd K a w h1 h2 h3 => ?_⟩
      have := h.2 rd K a w h1 h2 h3
      generalize (execOp a.eval o).run P w = r at this
      unfold resOk at this ⊢
      split at this
      · obtain ⟨v, S', K', q1, q2⟩ := this; exact ⟨v, S', K', AWo_mono hq l _ _ q1, q2⟩
      · obtain ⟨v, S', K', q1, q2⟩ := this; exact ⟨v, S', K', AWo_mono hq l _ _ q1, q2⟩
      · refine this.mono ?_
        rintro e w'' ⟨rv, rfl, v, S', K', q1, q2⟩; exact ⟨rv, rfl, v, S', K', AWo_mono hq l _ _ q1, q2⟩
      · refine this.mono ?_
        rintro e w'' ⟨rv, rfl, v, S', K', q1, q2⟩; exact ⟨rv, rfl, v, S', K', AWo_mono hq l _ _ q1, q2⟩
      · exact this.elim
    · rename_i hw
      rw [if_neg hw] at h
      exact AWo_mono hq l _ _ h

theorem AOp.mono {o : Oper} {t : List AV} {S : AS} {Kp Kp' : AV → AS → Prop} (h : AOp P o t S Kp) (hk : ∀ v S', Kp v S' → Kp' v S') : AOp P o t S Kp' := by
  refine ⟨h.1, fun rd K a w h1 h2 h3 => ?_⟩
  have := h.2 rd K a w h1 h2 h3
  generalize (execOp a.eval o).run P w = r at this
  unfold resOk at this ⊢
  split at this
  · obtain ⟨v, S', K', q1, q2⟩ := this; exact ⟨v, S', K', hk _ _ q1, q2⟩
  · obtain ⟨v, S', K', q1, q2⟩ := this; exact ⟨v, S', K', hk _ _ q1, q2⟩
  · refine this.mono ?_
    rintro e w'' ⟨rv, rfl, v, S', K', q1, q2⟩; exact ⟨rv, rfl, v, S', K', hk _ _ q1, q2⟩
  · refine this.mono ?_
    rintro e w'' ⟨rv, rfl, v, S', K', q1, q2⟩; exact ⟨rv, rfl, v, S', K', hk _ _ q1, q2⟩
  · exact this.elim

theorem AWe_sound {ops : Array Oper} {Q : List AV → AS → Prop} : ∀ (l : List Oper) (t : List AV) (S : AS), (∀ o ∈ l, okOp o = true) → AWe P ops Q l t S → AWo P ops Q l t S
  | [], t, S, _, h => h
  | o :: l, t, S, hok, h => by
    unfold AWe at h
    unfold AWo
    split
    · rename_i hw
      replace h := h.1 hw
      exact (aopw_sound (hok o (List.mem_cons_self ..)) h).mono (fun v S' hk => AWe_sound l _ _ (fun x hx => hok x (List.mem_cons_of_mem _ hx)) hk)
    · rename_i hw
      replace h := h.2 (by simpa using hw)
      exact AWe_sound l _ _ (fun x hx => hok x (List.mem_cons_of_mem _ hx)) h

theorem AWdx_sound {ops : Array Oper} {Q : List AV → AS → Prop} (hok : ∀ o ∈ ops.toList, okOp o = true) (hn : noLate ops ixD = true) : ∀ (l : List Oper) (k : Nat) (late : Late) (pa : List (List AV)) (t : List AV) (S : AS), l = ops.toList.drop k → LateInv P ops ixD k late →
    AWdx P ops Q l pa t S → AWg P ops ixD Q k l late pa t S
  | [], k, late, pa, t, S, _, _, h => h
  | o :: l, k, late, pa, t, S, hl, hlate, h => by
    obtain ⟨ho, hl', hks⟩ := drop_cons hl
    have hoo : okOp o = true := hok o (by simpa using Array.mem_of_getElem? ho)
    unfold AWdx at h
    unfold AWg
    split at h
    · rename_i ha
      rw [if_pos ha]
      split at h
      · rename_i T hT
        split at h
        · rename_i cs hz
          exact ⟨T, cs, hT, hz, AWdx_sound hok hn l (k + 1) late _ _ S hl' hlate.succ h⟩
        · exact h.elim
      · exact h.elim
    · rename_i ha
      rw [if_neg ha]
      split at h
      · rename_i hx
        rw [if_pos hx]
        have hX : isX ixD o = true := by simp [isX, hx, ha]
        split
        · rename_i hw
          exact (aopw_sound hoo (h.1 hw)).mono (fun v S' hk => ⟨hlate.ok hn ho hX S', AWdx_sound hok hn l (k + 1) late _ _ S' hl' hlate.succ hk⟩)
        · rename_i hw
          exact ⟨hlate.ok hn ho hX _, AWdx_sound hok hn l (k + 1) late _ _ _ hl' hlate.succ (h.2 (by simpa using hw))⟩
      · rename_i hx
        rw [if_neg hx]
        split
        · rename_i hw
          replace h := h.1 hw
          have hd : detOp o.op = true := by simpa [ixD] using hx
          obtain ⟨v, h1, h2, h3⟩ := adetw_sound hoo hd h
          refine ⟨v, h1, AWdx_sound hok hn l (k + 1) _ pa _ S hl' ?_ h2⟩
          intro q hq
          rcases List.mem_cons.1 hq with rfl | hq
          · rcases h3 with h3 | h3
            · exact .inl h3
            · exact .inr ⟨Nat.lt_succ_self _, ho, h3, by simpa using hx, by simpa using ha⟩
          · exact hlate.succ q hq
        · rename_i hw
          exact AWdx_sound hok hn l (k + 1) late pa _ S hl' hlate.succ (h.2 (by simpa using hw))

theorem awp_sound (hm : P.follows .mixedOrders = true) : ∀ (c : Code) {Q : Exit → List AV → AS → Prop} {t : List AV} {S : AS}, codeOk P c = true → awp P c Q t S → AW P c Q t S
  | .skip, Q, t, S, _, h => AW.skip h
  | .label l, Q, t, S, _, h => AW.label h
  | .seq a b, Q, t, S, hok, h => by
    simp only [codeOk, Bool.and_eq_true] at hok
    refine AW.seq ((awp_sound hm a hok.1 h).mono ?_)
    intro e t' S' hq
    cases e with
    | normal => exact awp_sound hm b hok.2 hq
    | exit id => exact hq
    | goto l => exact hq
    | ret => exact hq
    | panic ch => exact hq
    | outgrown => exact hq
  | .cond x a b, Q, t, S, hok, h => by
    simp only [codeOk, Bool.and_eq_true] at hok
    simp only [awp] at h
    split at h
    · rename_i c e
      exact AW.cond e hok.1.1 (fun hc => awp_sound hm a hok.1.2 (h.1 hc)) (fun hc => awp_sound hm b hok.2 (h.2 hc))
    · exact h.elim
  | .block id c, Q, t, S, hok, h => AW.block (awp_sound hm c hok h)
  | .exit id, Q, t, S, _, h => AW.exit h
  | .ret, Q, t, S, _, h => AW.ret h
  | .region id ops false, Q, t, S, hok, h => by
    simp only [codeOk, List.all_eq_true] at hok
    exact AW.region (AWe_sound _ _ _ hok h)
  | .region id ops true, Q, t, S, hok, h => by
    simp only [codeOk, Bool.and_eq_true, List.all_eq_true] at hok
    exact AW.draw hm hok.2.1 hok.2.2.1 (AWdx_sound hok.1 hok.2.2.2 _ _ _ _ _ _ (by simp) (fun q hq => by cases hq) h)
  | .loop c, Q, t, S, _, h => AW.loop h
  | .rangeFunc f ps x c, Q, t, S, _, h => h
  | .scope c, Q, t, S, _, h => h.elim
  | .goto l, Q, t, S, _, h => h.elim
  | .refuse w, Q, t, S, _, h => h.elim

/-- One round of a loop. -/
theorem AWl.step (hm : P.follows .mixedOrders = true) {c : Code} {Q : Exit → List AV → AS → Prop} {t : List AV} {S : AS} (hok : codeOk P c = true) (h : awp P c (thenQ (AWl P c Q) Q) t S) : AWl P c Q t S :=
  AWl.round (awp_sound hm c hok h)

theorem ACall.body (hm : P.follows .mixedOrders = true) {f : FuncId} {fn : Func} {c : Code} {args : List AV} {S : AS} {Q : AV → AS → Prop} (hf : P.funcs[f]? = some fn) (hb : fn.body = some c) (hc : callable P f = true) (hok : codeOk P c = true)
    (h : awp P c (Out fun t' S2 => ∃ v2 v S1, ares P t' S2 fn.results.toList = some v2 ∧ VLe v2 v ∧ Leaves S S2 S1 v ∧ Q v S1) (args ++ List.replicate (fn.ntmps - args.length) (.tup [])) S) : ACall P f args S Q :=
  ACall.of_body hf hb hc (awp_sound hm c hok h)

/-- A function that leaves the state alone: whatever it has laid is dropped. -/
theorem Out.imp {Q Q' : List AV → AS → Prop} (h : ∀ t S, Q t S → Q' t S) : ∀ e t S, Out Q e t S → Out Q' e t S := by
  intro e t S hq
  cases e <;> first | exact h _ _ hq | exact hq.elim

/-- A function that leaves the state alone: whatever it has laid is dropped. -/
theorem DCall.body (hm : P.follows .mixedOrders = true) {f n : FuncId} {fn : Func} {c : Code} {rs : Array ResultVar} {args : List AV} {v : AV} (hf : P.funcs[f]? = some fn) (hb : fn.body = some c) (hn : fn.ntmps = n) (hr : fn.results = rs) (hc : callable P f = true) (hok : codeOk P c = true)
    (hv : Wf 0 0 0 v) (h : ∀ S : AS, awp P c (Out fun t' S2 => ∃ v2, ares P t' S2 rs.toList = some v2 ∧ VLe v2 v ∧ ∃ G, S2 = S.app G) (args ++ List.replicate (n - args.length) (.tup [])) (S.app ⟨[], [], []⟩)) : DCall P f args v := by
  intro S
  have hS : S.app ⟨[], [], []⟩ = S := by simp [AS.app]
  subst hn; subst hr
  refine ACall.of_body hf hb hc (((awp_sound hm c hok (hS ▸ h S))).mono (Out.imp ?_))
  rintro t' S2 ⟨v2, h1, h2, G, rfl⟩
  exact ⟨v2, v, S, h1, h2, Leaves.same G (hv.mono (Nat.zero_le _) (Nat.zero_le _) (Nat.zero_le _)), rfl, rfl⟩

end

/-! ### What simp looks into, and what not -/
section
variable {P : Program} {ops : Array Oper} {o : Oper} {l : List Oper} {c : Code}
@[congr] theorem awp_congr {Q : Exit → List AV → AS → Prop} {t t' : List AV} {S S' : AS} (h : t = t') (k : S = S') : awp P c Q t S = awp P c Q t' S' := by rw [h, k]
@[congr] theorem AWl_congr {Q : Exit → List AV → AS → Prop} {t t' : List AV} {S S' : AS} (h : t = t') (k : S = S') : AWl P c Q t S = AWl P c Q t' S' := by rw [h, k]
@[congr] theorem AW_congr {Q : Exit → List AV → AS → Prop} {t t' : List AV} {S S' : AS} (h : t = t') (k : S = S') : AW P c Q t S = AW P c Q t' S' := by rw [h, k]
@[congr] theorem AWe_congr {Q : List AV → AS → Prop} {t t' : List AV} {S S' : AS} (h : t = t') (k : S = S') : AWe P ops Q l t S = AWe P ops Q l t' S' := by rw [h, k]
@[congr] theorem AWdx_congr {Q : List AV → AS → Prop} {pa pa' : List (List AV)} {t t' : List AV} {S S' : AS} (hp : pa = pa') (h : t = t') (k : S = S') : AWdx P ops Q l pa t S = AWdx P ops Q l pa' t' S' := by rw [hp, h, k]
@[congr] theorem aopw_congr {e : Operand → AV} {S S' : AS} {Kp : AV → AS → Prop} (k : S = S') : aopw P o e S Kp = aopw P o e S' Kp := by rw [k]
@[congr] theorem adetw_congr {e : Operand → AV} {S S' : AS} {R : AV → Prop} (k : S = S') : adetw P o e S R = adetw P o e S' R := by rw [k]
@[congr] theorem abinw_congr {op : BinOp} {T : TypeId} {X X' Y Y' : AV} {R : AV → Prop} (h : X = X') (k : Y = Y') : abinw P op T X Y R = abinw P op T X' Y' R := by rw [h, k]
@[congr] theorem aintw_congr {op : BinOp} {q : IntKind} {a a' b b' : Int} {R : Value → Prop} (h : a = a') (k : b = b') : aintw op q a b R = aintw op q a' b' R := by rw [h, k]
@[congr] theorem eqlR_congr {op : BinOp} {b b' : Bool} {R : AV → Prop} (h : b = b') : eqlR op b R = eqlR op b' R := by rw [h]
@[congr] theorem abuiltinw_congr {b : Builtin} {xs : List Operand} {Ts : List TypeId} {e : Operand → AV} {S S' : AS} {Kp : AV → AS → Prop} (k : S = S') : abuiltinw P b xs Ts e S Kp = abuiltinw P b xs Ts e S' Kp := by rw [k]
@[congr] theorem ACallV_congr {f f' : AV} {args args' : List AV} {S S' : AS} {Kp : AV → AS → Prop} (h : f = f') (h2 : args = args') (k : S = S') : ACallV P f args S Kp = ACallV P f' args' S' Kp := by rw [h, h2, k]
@[congr] theorem ACall_congr {f : FuncId} {args args' : List AV} {S S' : AS} {Kp : AV → AS → Prop} (h2 : args = args') (k : S = S') : ACall P f args S Kp = ACall P f args' S' Kp := by rw [h2, k]
@[congr] theorem Out_congr {Q : List AV → AS → Prop} {e : Exit} {t t' : List AV} {S S' : AS} (h : t = t') (k : S = S') : Out Q e t S = Out Q e t' S' := by rw [h, k]
@[congr] theorem thenQ_congr {R : List AV → AS → Prop} {Q : Exit → List AV → AS → Prop} {e : Exit} {t t' : List AV} {S S' : AS} (h : t = t') (k : S = S') : thenQ R Q e t S = thenQ R Q e t' S' := by rw [h, k]
@[congr] theorem blockQ_congr {id : Nat} {Q : Exit → List AV → AS → Prop} {e : Exit} {t t' : List AV} {S S' : AS} (h : t = t') (k : S = S') : blockQ id Q e t S = blockQ id Q e t' S' := by rw [h, k]

theorem app_push (S G : AS) (cs : List AV) : (S.app G).push cs = S.app (G.push cs) := by simp [AS.app, AS.push]
theorem app_pushOwn (S G : AS) (n : Nat) : (S.app G).pushOwn n = S.app (G.pushOwn n) := by simp [AS.app, AS.pushOwn]
theorem app_blen (S G : AS) : (S.app G).box.length = S.box.length + G.box.length := by simp [AS.app]
theorem app_olen (S G : AS) : (S.app G).own.length = S.own.length + G.own.length := by simp [AS.app]
theorem app_llen (S G : AS) : (S.app G).lp.length = S.lp.length + G.lp.length := by simp [AS.app]
theorem app_box (S G : AS) (k : Nat) : (S.app G).box[S.box.length + k]? = G.box[k]? := by
  simp only [AS.app]; rw [List.getElem?_append_right (by omega)]; congr 1; omega
theorem app_own (S G : AS) (k : Nat) : (S.app G).own[S.own.length + k]? = G.own[k]? := by
  simp only [AS.app]; rw [List.getElem?_append_right (by omega)]; congr 1; omega
theorem app_box_old {S G : AS} {b : Nat} {cs : List AV} (h : S.box[b]? = some cs) : (S.app G).box[b]? = some cs := by
  simp only [AS.app]; rw [List.getElem?_append_left (List.getElem?_eq_some_iff.1 h).1]; exact h
theorem app_setBox (S G : AS) (k : Nat) (cs : List AV) : (S.app G).setBox (S.box.length + k) cs = S.app (G.setBox k cs) := by
  simp only [AS.app, AS.setBox, AS.mk.injEq, and_self, and_true]; rw [List.set_append_right _ _ (by omega)]; congr 2; omega
theorem app_setOwn (S G : AS) (k n : Nat) : (S.app G).setOwn (S.own.length + k) n = S.app (G.setOwn k n) := by
  simp only [AS.app, AS.setOwn, AS.mk.injEq, and_true, true_and]; rw [List.set_append_right _ _ (by omega)]; congr 2; omega
theorem app_setBox_old {S G : AS} {b : Nat} (cs : List AV) (h : b < S.box.length) : (S.app G).setBox b cs = (S.setBox b cs).app G := by
  simp only [AS.app, AS.setBox, AS.mk.injEq, and_self, and_true]; rw [List.set_append_left _ _ h]
theorem mk_push (bs : List (List AV)) (os : List Nat) (ls : List ALoop) (cs : List AV) : (⟨bs, os, ls⟩ : AS).push cs = ⟨bs ++ [cs], os, ls⟩ := rfl
theorem mk_pushOwn (bs : List (List AV)) (os : List Nat) (ls : List ALoop) (n : Nat) : (⟨bs, os, ls⟩ : AS).pushOwn n = ⟨bs, os ++ [n], ls⟩ := rfl
theorem mk_setBox (bs : List (List AV)) (os : List Nat) (ls : List ALoop) (b : Nat) (cs : List AV) : (⟨bs, os, ls⟩ : AS).setBox b cs = ⟨bs.set b cs, os, ls⟩ := rfl
theorem mk_setOwn (bs : List (List AV)) (os : List Nat) (ls : List ALoop) (b n : Nat) : (⟨bs, os, ls⟩ : AS).setOwn b n = ⟨bs, os.set b n, ls⟩ := rfl
theorem app_ex {S : AS} {G : AS} : ∃ G', S.app G = S.app G' := ⟨G, rfl⟩

theorem AWe_toList {Q : List AV → AS → Prop} {t : List AV} {S : AS} : AWe P ops Q (l.toArray).toList t S = AWe P ops Q l t S := rfl
theorem AWdx_toList {Q : List AV → AS → Prop} {pa : List (List AV)} {t : List AV} {S : AS} : AWdx P ops Q (l.toArray).toList pa t S = AWdx P ops Q l pa t S := rfl
theorem awp_loop {Q : Exit → List AV → AS → Prop} {t : List AV} {S : AS} : awp P (.loop c) Q t S = AWl P c Q t S := rfl
end

end Go.Proofs.Ytfjeopaaplnoaaa.Av
