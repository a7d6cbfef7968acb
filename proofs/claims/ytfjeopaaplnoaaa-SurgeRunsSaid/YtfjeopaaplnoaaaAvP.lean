/-
  THE ABSTRACT WALK BY RECKONING: what is left to show of a piece of code, as a proposition that simp opens.
-/
import Derived.Test.YtfjeopaaplnoaaaAvS
namespace Go.Proofs.Ytfjeopaaplnoaaa.Av
open Go Go.RowKit
set_option linter.unusedSimpArgs false
set_option linter.unusedVariables false

/-- A tag: what it names simp leaves alone. -/
inductive Tg.{u} {α : Type u} (a : α) : Type where
  | mk

inductive TK where
  | bool
  | str
  | ptr
  | slice
  | other

def kindOf (P : Program) (T : TypeId) : TK :=
  match P.underlying T with
  | some .bool => .bool
  | some .string => .str
  | some (.pointer _) => .ptr
  | some (.slice _) => .slice
  | _ => .other

theorem kind_bool {P : Program} {T : TypeId} (h : kindOf P T = .bool) : P.underlying T = some .bool := by
  unfold kindOf at h; split at h <;> first | assumption | (cases h)
theorem kind_str {P : Program} {T : TypeId} (h : kindOf P T = .str) : P.underlying T = some .string := by
  unfold kindOf at h; split at h <;> first | assumption | (cases h)
theorem kind_ptr {P : Program} {T : TypeId} (h : kindOf P T = .ptr) : ∃ e, P.underlying T = some (.pointer e) := by
  unfold kindOf at h; split at h <;> first | exact ⟨_, ‹_›⟩ | (cases h)
theorem kind_slice {P : Program} {T : TypeId} (h : kindOf P T = .slice) : ∃ e, P.underlying T = some (.slice e) := by
  unfold kindOf at h; split at h <;> first | exact ⟨_, ‹_›⟩ | (cases h)

def eqlR (op : BinOp) (b : Bool) (R : AV → Prop) : Prop :=
  match op with
  | .eql => R (.sc (.bool b))
  | .neq => R (.sc (.bool !b))
  | _ => False

/-- A value, a state: brought into form before it is handed on. -/
structure valW (x : AV) (R : AV → Prop) : Prop where
  out : R x
theorem valW.int {k : IntKind} {n : Int} {R : AV → Prop} (h : R (.sc (.int k n))) : valW (.sc (.int k n)) R := ⟨h⟩
theorem valW.bool {b : Bool} {R : AV → Prop} (h : R (.sc (.bool b))) : valW (.sc (.bool b)) R := ⟨h⟩
theorem valW.unit {R : AV → Prop} (h : R (.tup [])) : valW (.tup []) R := ⟨h⟩
theorem valW.eq {x y : AV} {R : AV → Prop} (e : x = y) (h : R y) : valW x R := ⟨e ▸ h⟩
theorem valW.ptr {b o b' o' : Nat} {R : AV → Prop} (e : b = b') (e' : o = o') (h : R (.ptr b' o')) : valW (.ptr b o) R := ⟨e ▸ e' ▸ h⟩
theorem valW.agg {cs cs' : List AV} {R : AV → Prop} (e : cs = cs') (h : R (.agg cs')) : valW (.agg cs) R := ⟨e ▸ h⟩
theorem valW.el {cs cs' : List AV} {o o' : Nat} {R : AV → Prop} (e : cs = cs') (e' : o = o') (h : R (.el cs' o')) : valW (.el cs o) R := ⟨e ▸ e' ▸ h⟩
theorem valW.sl {k : SK} {st : Nat} {cs cs' : List AV} {R : AV → Prop} (e : cs = cs') (h : R (.sl k st cs')) : valW (.sl k st cs) R := ⟨e ▸ h⟩
theorem valW.tup {cs cs' : List AV} {R : AV → Prop} (e : cs = cs') (h : R (.tup cs')) : valW (.tup cs) R := ⟨e ▸ h⟩
structure stW (S : AS) (R : AS → Prop) : Prop where
  out : R S
theorem stW.mk' {b : List (List AV)} {o : List Nat} {l : List ALoop} {R : AS → Prop} (h : R ⟨b, o, l⟩) : stW ⟨b, o, l⟩ R := ⟨h⟩
theorem stW.eq {S S' : AS} {R : AS → Prop} (e : S = S') (h : R S') : stW S R := ⟨e ▸ h⟩

/-- What is looked up is there. -/
structure someH {α : Type} (x : Option α) (R : α → Prop) : Prop where
  out : ∃ v, x = some v ∧ R v
abbrev someW (x : Option AV) (R : AV → Prop) : Prop := someH x R
theorem someH_of {α : Type} {x : Option α} {R : α → Prop} {v : α} (h : x = some v) (hr : R v) : someH x R := ⟨v, h, hr⟩
theorem someW_of {x : Option AV} {R : AV → Prop} {v : AV} (h : x = some v) (hr : R v) : someW x R := ⟨v, h, hr⟩

def abinw (P : Program) (op : BinOp) (T : TypeId) (X Y : AV) (R : AV → Prop) : Prop :=
  match X, Y with
  | .sc (.int k a), .sc (.int k' b) => k' = k ∧ aintw op k a b (fun v => R (.sc v))
  | .sc (.bool a), .sc (.bool b) => kindOf P T = .bool ∧ eqlR op (a == b) R
  | .agg xs, .agg ys => someH (aggEqw P T xs ys) fun r => eqlR op r R
  | .ptr b f, .sc (.pointer none) => kindOf P T = .ptr ∧ eqlR op false R
  | .sc (.pointer none), .sc (.pointer none) => kindOf P T = .ptr ∧ eqlR op true R
  | .sl _ _ _, .sc (.slice none _ _) => kindOf P T = .slice ∧ eqlR op false R
  | .sc (.slice none _ _), .sc (.slice none _ _) => kindOf P T = .slice ∧ eqlR op true R
  | _, _ => False

def aslc (P : Program) (T : TypeId) : Option Nat :=
  match P.underlying T with
  | some (.slice e) => match P.info? e, azero P e with
    | some i, some _ => some i.size
    | _, _ => none
  | _ => none

theorem aslc_run {P : Program} {T : TypeId} {st : Nat} (h : aslc P T = some st) : aelem P T = some st ∧ ∃ e, P.underlying T = some (.slice e) ∧ ∃ cs, azero P e = some cs := by
  unfold aslc at h
  split at h
  · rename_i e hu
    split at h
    · rename_i i cs hi hz
      simp only [Option.some.injEq] at h
      subst h
      exact ⟨by simp [aelem, hu, hi], e, hu, cs, hz⟩
    · cases h
  · cases h

def okCells (st : Nat) (vs : List AV) : Bool := vs.all fun v => !v.isTup && v.cells.length == st

def abuiltinw (P : Program) (b : Builtin) (xs : List Operand) (Ts : List TypeId) (e : Operand → AV) (S : AS) (Kp : AV → AS → Prop) : Prop :=
  match b, xs, Ts with
  | .len, [x], [T] => match kindOf P T with
    | .slice => match alen (e x) with
      | some n => Kp (.sc (.int .i64 n)) S
      | none => False
    | .str => match e x with
      | .sc (.string s) => Kp (.sc (.int .i64 s.size)) S
      | _ => False
    | _ => False
  | .max, [x, y], _ => match e x, e y with
    | .sc (.int k m), .sc (.int _ n) => Kp (.sc (.int k (Max.max m n))) S
    | _, _ => False
  | .min, [x, y], _ => match e x, e y with
    | .sc (.int k m), .sc (.int _ n) => Kp (.sc (.int k (Min.min m n))) S
    | _, _ => False
  | .append, [x, y], [T, T'] => T' = T ∧ match aapp P T with
    | some (el, st, bytes) => match appX S el st (e x), aelems st (e y) with
      | some (xs, tok), some ys => (xs.length + ys.length) * bytes ≤ 140737488355328 ∧ (ys = [] → Kp (e x) S) ∧ (ys ≠ [] → Kp (appV S el st (xs ++ ys) tok) (appS S ((xs.length + ys.length) * st) tok))
      | _, _ => False
    | none => False
  | _, _, _ => False

/-- A test, held. -/
structure ifH (c : Bool) (A B : Prop) : Prop where
  t : c = true → A
  f : c = false → B
theorem ifH_isT {c : Bool} {A B : Prop} (h : c = true) (a : A) : ifH c A B := ⟨fun _ => a, fun k => by rw [h] at k; cases k⟩
theorem ifH_isF {c : Bool} {A B : Prop} (h : c = false) (b : B) : ifH c A B := ⟨fun k => (by rw [h] at k; cases k), fun _ => b⟩
theorem ifH_pos {p : Prop} [Decidable p] {A B : Prop} (h : p) (a : A) : ifH (decide p) A B := ifH_isT (by simpa using h) a
theorem ifH_neg {p : Prop} [Decidable p] {A B : Prop} (h : ¬ p) (b : B) : ifH (decide p) A B := ifH_isF (by simpa using h) b
theorem ifH_split {c : Bool} {A B : Prop} (ha : c = true → A) (hb : c = false → B) : ifH c A B := ⟨ha, hb⟩
theorem ifH_dec {p : Prop} [Decidable p] {A B : Prop} (ha : p → A) (hb : ¬ p → B) : ifH (decide p) A B := ⟨fun h => ha (by simpa using h), fun h => hb (by simpa using h)⟩
theorem ifH_not {c : Bool} {A B : Prop} (h : ifH c B A) : ifH (!c) A B := ⟨fun k => h.f (by simpa using k), fun k => h.t (by simpa using k)⟩

/-- A call, or a call of 'yield', held. -/
structure ACallH (P : Program) (g : FuncId) (args : List AV) (S : AS) (Kp : AV → AS → Prop) : Prop where
  out : ACall P g args S Kp
structure AYieldH (P : Program) (l : Nat) (args : List AV) (S : AS) (Kp : AV → AS → Prop) : Prop where
  out : AYield P l args S Kp
theorem ACallH.by {P : Program} {g : FuncId} {args : List AV} {S : AS} {Kp : AV → AS → Prop} {v : AV} (h : DCall P g args v) (hk : Kp v S) : ACallH P g args S Kp := ⟨DCall.use h hk⟩

/-- A call through a function value. -/
def ACallV (P : Program) (f : AV) (args : List AV) (S : AS) (Kp : AV → AS → Prop) : Prop :=
  match f with
  | .clo (.func g) fs cs => ACallH P g (fs ++ args ++ cs) S Kp
  | .yld l => AYieldH P l args S Kp
  | _ => False

/-- A function that leaves the state alone. -/
structure callG (P : Program) (g : FuncId) (args : List AV) (R : AV → Prop) : Prop where
  out : ∃ v, DCall P g args v ∧ R v
theorem callG.by {P : Program} {g : FuncId} {args : List AV} {R : AV → Prop} {v : AV} (h : DCall P g args v) (hr : R v) : callG P g args R := ⟨v, h, hr⟩
def callW (P : Program) (f : AV) (args : List AV) (R : AV → Prop) : Prop :=
  match f with
  | .clo (.func g) fs cs => callG P g (fs ++ args ++ cs) R
  | _ => False

def aopw (P : Program) (o : Oper) (e : Operand → AV) (S : AS) (Kp : AV → AS → Prop) : Prop :=
  match o.op with
  | .move x => Kp (e x) S
  | .assign x => Kp (e x) S
  | .pick c x y => match e c with
    | .sc (.bool b) => ifH b (Kp (e x) S) (Kp (e y) S)
    | _ => False
  | .alloc T => someH (azero P T) fun cs => Kp (.ptr S.box.length 0) (S.push cs)
  | .box _ x => valW (e x) fun a => a.isTup = false ∧ Kp (.ptr S.box.length 0) (S.push a.cells)
  | .build T parts => match abuild P T (parts.toList.map fun q => (q.1, e q.2)) with
    | some v => Kp v S
    | none => False
  | .buildSlice T len parts => someH (aslc P T) fun st => asparts parts len = true ∧ len * st ≤ 16777216 ∧ okCells st (parts.toList.map fun q => e q.2) = true ∧ Kp (.sl .ex st (parts.toList.map fun q => e q.2)) S
  | .load T x => match aload P T S (e x) with
    | some v => Kp v S
    | none => False
  | .store T x y => valW (e y) fun a => match astore P T S (e x) a with
    | some S' => Kp (.tup []) S'
    | none => False
  | .nilCheck x => match e x with
    | .ptr b f => Kp (.ptr b f) S
    | _ => False
  | .binOp op T x y _ => abinw P op T (e x) (e y) (fun v => Kp v S)
  | .unOp .not _ x => match e x with
    | .sc (.bool b) => Kp (.sc (.bool !b)) S
    | _ => False
  | .unOp .neg _ x => match e x with
    | .sc (.int k n) => Kp (.sc (.int k (k.wrap (0 - n)))) S
    | _ => False
  | .makeFunc fn fs cs => Kp (.clo fn (fs.toList.map e) (cs.toList.map e)) S
  | .fieldAddr T x f => match afoff P T f with
    | some n => match ashift n (e x) with
      | some q => Kp q S
      | none => False
    | none => False
  | .field T x f => match afield P T f, e x with
    | some (g, n, off), .agg cs => match pickCells g n cs off with
      | some v => Kp v S
      | none => False
    | _, _ => False
  | .indexAddr T x i => match e x, e i with
    | .sl _ st xs, .sc (.int _ n) => aelem P T = some st ∧ 0 ≤ n ∧ someW xs[n.toNat]? (fun v => Kp (.el v.cells 0) S)
    | .ptr b f, .sc (.int _ n) => match aarrP P T with
      | some (len, st) => 0 ≤ n ∧ n < len ∧ Kp (.ptr b (f + n.toNat * st)) S
      | none => False
    | _, _ => False
  | .index T x i => match aarr P T, e x, e i with
    | some (len, g, n), .agg cs, .sc (.int _ q) => 0 ≤ q ∧ q < len ∧ someW (pickCells g n cs (q.toNat * n)) (fun v => Kp v S)
    | _, _, _ => False
  | .extract x n => match e x with
    | .tup vs => match vs[n]? with
      | some v => Kp v S
      | none => False
    | _ => False
  | .slice T x lo hi none => match e x with
    | .sl _ st xs => aelem P T = some st ∧ ∃ l h, boundE e lo 0 l ∧ boundE e hi xs.length h ∧ l ≤ h ∧ h ≤ xs.length ∧ Kp (.sl .ro st ((xs.drop l).take (h - l))) S
    | .sc (.slice none 0 0) => (∃ st, aelem P T = some st) ∧ boundE e lo 0 0 ∧ boundE e hi 0 0 ∧ Kp (.sc (.slice none 0 0)) S
    | _ => False
  | .slice T x none (some y) (some z) => match e x, e y, e z with
    | .sl _ st _, .sc (.int _ 0), .sc (.int _ 0) => aelem P T = some st ∧ Kp (.sl .ex st []) S
    | .sc (.slice none 0 0), .sc (.int _ 0), .sc (.int _ 0) => (∃ st, aelem P T = some st) ∧ Kp (.sc (.slice none 0 0)) S
    | _, _, _ => False
  | .call { callee := .value f, args := args, argTypes := _ } => ACallV P (e f) (args.toList.map e) S Kp
  | .call { callee := .builtin b, args := args, argTypes := Ts } => abuiltinw P b args.toList Ts.toList e S Kp
  | _ => False

def okOp (o : Oper) : Bool := o.op.operands.all okConst

section
variable {P : Program} {o : Oper} {t : List AV} {S : AS} {Kp : AV → AS → Prop}

theorem okOp_mem (h : okOp o = true) {x : Operand} (hm : x ∈ o.op.operands) : okConst x = true := by
  simp only [okOp, Array.all_eq_true'] at h
  exact h x hm

theorem eqlR_or {op : BinOp} {b : Bool} {R : AV → Prop} (h : eqlR op b R) : (op = .eql ∧ R (.sc (.bool b))) ∨ (op = .neq ∧ R (.sc (.bool !b))) := by
  cases op <;> first | exact h.elim | exact .inl ⟨rfl, h⟩ | exact .inr ⟨rfl, h⟩

theorem abinw_sound {op : BinOp} {T T2 : TypeId} {x y : Operand} (ho : o.op = .binOp op T x y T2) (hx : okConst x = true) (hy : okConst y = true) (h : abinw P op T (ev t x) (ev t y) (fun v => Kp v S)) : AOp P o t S Kp := by
  unfold abinw at h
  split at h
  · rename_i k a k' b e1 e2
    obtain ⟨rfl, h⟩ := h
    exact AOp.int ho hx hy e1 e2 h
  · rename_i a b e1 e2
    exact AOp.bool ho hx hy e1 e2 (kind_bool h.1) (eqlR_or h.2)
  · rename_i xs ys e1 e2
    obtain ⟨r, hr, h⟩ := h
    obtain ⟨q1, q2⟩ := aggEq_run (op := op) hr
    rcases eqlR_or h with ⟨rfl, h⟩ | ⟨rfl, h⟩
    · exact AOp.aggEq ho hx hy e1 e2 (q1 rfl) h
    · exact AOp.aggEq ho hx hy e1 e2 (q2 rfl) h
  · rename_i b f e1 e2
    obtain ⟨e, he⟩ := kind_ptr h.1
    exact AOp.ptrNil ho hx hy (by rw [e1]; rfl) e2 he (eqlR_or h.2)
  · rename_i e1 e2
    obtain ⟨e, he⟩ := kind_ptr h.1
    exact AOp.ptrNil ho hx hy (by rw [e1]; rfl) e2 he (eqlR_or h.2)
  · rename_i e1 e2
    obtain ⟨e, he⟩ := kind_slice h.1
    exact AOp.slNil ho hx hy (by rw [e1]; rfl) e2 he (eqlR_or h.2)
  · rename_i e1 e2
    obtain ⟨e, he⟩ := kind_slice h.1
    exact AOp.slNil ho hx hy (by rw [e1]; rfl) e2 he (eqlR_or h.2)
  · exact h.elim

theorem abuiltinw_sound {b : Builtin} {args : Array Operand} {Ts : Array TypeId} (ho : o.op = .call { callee := .builtin b, args := args, argTypes := Ts }) (hok : okOp o = true) (h : abuiltinw P b args.toList Ts.toList (ev t) S Kp) : AOp P o t S Kp := by
  have hm : ∀ x ∈ args.toList, okConst x = true := fun x hx => okOp_mem hok (by rw [ho]; simp [Op.operands, Call.operands]; simpa using hx)
  unfold abuiltinw at h
  split at h
  · rename_i x T hargs hTs
    have ea : args = #[x] := by rw [← Array.toArray_toList (xs := args), hargs]
    have eT : Ts = #[T] := by rw [← Array.toArray_toList (xs := Ts), hTs]
    subst ea; subst eT
    have hx := hm x (by simp)
    split at h
    · rename_i hk
      obtain ⟨e, he⟩ := kind_slice hk
      split at h
      · rename_i n hn
        exact AOp.len ho hx he hn h
      · exact h.elim
    · rename_i hk
      split at h
      · rename_i s hs
        exact AOp.lenStr ho hx (kind_str hk) hs h
      · exact h.elim
    · exact h.elim
  · rename_i x y hargs
    have ea : args = #[x, y] := by rw [← Array.toArray_toList (xs := args), hargs]
    subst ea
    split at h
    · rename_i k m k' n e1 e2
      exact AOp.max ho (hm x (by simp)) (hm y (by simp)) e1 e2 h
    · exact h.elim
  · rename_i x y hargs
    have ea : args = #[x, y] := by rw [← Array.toArray_toList (xs := args), hargs]
    subst ea
    split at h
    · rename_i k m k' n e1 e2
      exact AOp.min ho (hm x (by simp)) (hm y (by simp)) e1 e2 h
    · exact h.elim
  · rename_i x y T T' hargs hTs
    have ea : args = #[x, y] := by rw [← Array.toArray_toList (xs := args), hargs]
    obtain ⟨rfl, h⟩ := h
    have eT : Ts = #[T', T'] := by rw [← Array.toArray_toList (xs := Ts), hTs]
    subst ea; subst eT
    split at h
    · rename_i e st bytes hT
      split at h
      · rename_i xs tok ys e1 e2
        obtain ⟨h1, h2, h3⟩ := h
        exact AOp.append ho (hm x (by simp)) (hm y (by simp)) hT e1 e2 h1 h2 h3
      · exact h.elim
    · exact h.elim
  · exact h.elim

theorem aopw_sound (hok : okOp o = true) (h : aopw P o (ev t) S Kp) : AOp P o t S Kp := by
  have hm : ∀ x, x ∈ o.op.operands → okConst x = true := fun x hx => okOp_mem hok hx
  unfold aopw at h
  split at h
  case h_1 x ho => exact AOp.move (.inl ho) (hm x (by rw [ho]; simp [Op.operands])) h
  case h_2 x ho => exact AOp.move (.inr ho) (hm x (by rw [ho]; simp [Op.operands])) h
  case h_3 c x y ho =>
    split at h
    · rename_i b e
      refine AOp.pick ho e (hm c (by rw [ho]; simp [Op.operands])) (hm x (by rw [ho]; simp [Op.operands])) (hm y (by rw [ho]; simp [Op.operands])) ?_
      cases b with
      | true => exact h.t rfl
      | false => exact h.f rfl
    · exact h.elim
  case h_4 T ho =>
    obtain ⟨cs, e, h⟩ := h
    exact AOp.alloc ho e h
  case h_5 T x ho => exact AOp.box ho (hm x (by rw [ho]; simp [Op.operands])) h.out.1 h.out.2
  case h_6 T parts ho =>
    split at h
    · rename_i v e
      refine AOp.build ho ?_ e h
      simp only [Array.all_eq_true']
      intro q hq
      exact hm q.2 (by rw [ho]; simp only [Op.operands, List.mem_toArray]; exact List.mem_map.2 ⟨q, by simpa using hq, rfl⟩)
    · exact h.elim
  case h_7 T len parts ho =>
    · obtain ⟨st, hs, h1, h2, h3, h4⟩ := h
      obtain ⟨he, hz⟩ := aslc_run hs
      refine AOp.buildSlice ho ?_ h1 he h2 (.inr hz) ?_ h4
      · simp only [Array.all_eq_true']
        intro q hq
        exact hm q.2 (by rw [ho]; simp only [Op.operands, List.mem_toArray]; exact List.mem_map.2 ⟨q, by simpa using hq, rfl⟩)
      · intro q hq
        simp only [okCells, List.all_eq_true, Bool.and_eq_true, Bool.not_eq_true', beq_iff_eq] at h3
        exact h3 _ (List.mem_map.2 ⟨q, hq, rfl⟩)
  case h_8 T x ho =>
    split at h
    · rename_i v e
      exact AOp.load ho (hm x (by rw [ho]; simp [Op.operands])) e h
    · exact h.elim
  case h_9 T x y ho =>
    replace h := h.out
    split at h
    · rename_i S' e
      exact AOp.store ho (hm x (by rw [ho]; simp [Op.operands])) (hm y (by rw [ho]; simp [Op.operands])) e h
    · exact h.elim
  case h_10 x ho =>
    split at h
    · rename_i b f e
      exact AOp.nilCheck ho (hm x (by rw [ho]; simp [Op.operands])) e h
    · exact h.elim
  case h_11 op T x y T2 ho => exact abinw_sound ho (hm x (by rw [ho]; simp [Op.operands])) (hm y (by rw [ho]; simp [Op.operands])) h
  case h_12 T x ho =>
    split at h
    · rename_i b e
      exact AOp.not ho (hm x (by rw [ho]; simp [Op.operands])) e h
    · exact h.elim
  case h_13 T x ho =>
    split at h
    · rename_i k n e
      exact AOp.neg ho (hm x (by rw [ho]; simp [Op.operands])) e h
    · exact h.elim
  case h_14 fn fs cs ho =>
    refine AOp.makeFunc ho ?_ ?_ h
    · simp only [Array.all_eq_true']; exact fun x hx => hm x (by rw [ho]; simp [Op.operands, hx])
    · simp only [Array.all_eq_true']; exact fun x hx => hm x (by rw [ho]; simp [Op.operands, hx])
  case h_15 T x f ho =>
    split at h
    · rename_i n hn
      split at h
      · rename_i q hq
        exact AOp.fieldAddr ho (hm x (by rw [ho]; simp [Op.operands])) hn hq h
      · exact h.elim
    · exact h.elim
  case h_16 T x f ho =>
    split at h
    · rename_i g n off cs e1 e2
      split at h
      · rename_i v hv
        exact AOp.field ho (hm x (by rw [ho]; simp [Op.operands])) e1 e2 hv h
      · exact h.elim
    · exact h.elim
  case h_17 T x i ho =>
    split at h
    · rename_i k st xs ki n e1 e2
      obtain ⟨h1, h2, v, h3, h4⟩ := h
      exact AOp.indexAddr ho (hm x (by rw [ho]; simp [Op.operands])) (hm i (by rw [ho]; simp [Op.operands])) h1 e1 e2 h2 h3 h4
    · rename_i b f ki n e1 e2
      split at h
      · rename_i len st e0
        exact AOp.indexAddrP ho (hm x (by rw [ho]; simp [Op.operands])) (hm i (by rw [ho]; simp [Op.operands])) e0 e1 e2 h.1 h.2.1 h.2.2
      · exact h.elim
    · exact h.elim
  case h_18 T x i ho =>
    split at h
    · rename_i len g n cs ki q e0 e1 e2
      obtain ⟨h1, h2, v, h3, h4⟩ := h
      exact AOp.index ho (hm x (by rw [ho]; simp [Op.operands])) (hm i (by rw [ho]; simp [Op.operands])) e0 e1 e2 h1 h2 h3 h4
    · exact h.elim
  case h_19 x n ho =>
    split at h
    · rename_i vs e
      split at h
      · rename_i v hv
        exact AOp.extract ho (hm x (by rw [ho]; simp [Op.operands])) e hv h
      · exact h.elim
    · exact h.elim
  case h_20 T x lo hi ho =>
    split at h
    · rename_i k st xs e
      obtain ⟨h1, l, hh, h2, h3, h4, h5, h6⟩ := h
      exact AOp.slice ho (hm x (by rw [ho]; simp [Op.operands])) h1 e h2 h3 h4 h5 h6
    · rename_i e
      obtain ⟨⟨st, h1⟩, h2, h3, h4⟩ := h
      exact AOp.sliceNil2 ho (hm x (by rw [ho]; simp [Op.operands])) h1 e h2 h3 h4
    · exact h.elim
  case h_21 T x y z ho =>
    split at h
    · rename_i k st xs ky kz e1 e2 e3
      exact AOp.sliceNone ho (hm x (by rw [ho]; simp [Op.operands])) (hm y (by rw [ho]; simp [Op.operands])) (hm z (by rw [ho]; simp [Op.operands])) h.1 e1 e2 e3 h.2
    · rename_i ky kz e1 e2 e3
      obtain ⟨⟨st, h1⟩, h2⟩ := h
      exact AOp.sliceNil ho (hm x (by rw [ho]; simp [Op.operands])) (hm y (by rw [ho]; simp [Op.operands])) (hm z (by rw [ho]; simp [Op.operands])) h1 e1 e2 e3 h2
    · exact h.elim
  case h_22 f args Ts ho =>
    unfold ACallV at h
    split at h
    · rename_i g fs cs e
      refine AOp.call ho (hm f (by rw [ho]; simp [Op.operands, Call.operands])) ?_ e h.out
      simp only [Array.all_eq_true']
      exact fun x hx => hm x (by rw [ho]; simp [Op.operands, Call.operands, hx])
    · rename_i l e
      refine AOp.yield ho (hm f (by rw [ho]; simp [Op.operands, Call.operands])) ?_ e h.out
      simp only [Array.all_eq_true']
      exact fun x hx => hm x (by rw [ho]; simp [Op.operands, Call.operands, hx])
    · exact h.elim
  case h_23 b args Ts ho => exact abuiltinw_sound ho hok h
  case h_24 => exact h.elim

end
end Go.Proofs.Ytfjeopaaplnoaaa.Av
