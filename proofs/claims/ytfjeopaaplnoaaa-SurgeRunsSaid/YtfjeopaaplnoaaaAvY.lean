/-
  THE GUIDED WALK: a tree says which way tests go and what calls yield; what is owed is one proposition, which the kernel reckons.
-/
import Derived.Test.YtfjeopaaplnoaaaAvX
namespace Go.Proofs.Ytfjeopaaplnoaaa.Av
open Go Go.RowKit
set_option linter.unusedSimpArgs false
set_option linter.unusedVariables false

/-- A way out: when, how, with these values in these temporaries, in this state (if it is told). -/
structure Alt where
  c : Prop
  e : Exit
  post : List (Nat × AV)
  S : Option AS

inductive Tr where
  | n
  | t (k : Tr)
  | f (k : Tr)
  | b (k l : Tr)
  | r (k : Tr)
  | v (x : AV) (k : Tr)
  | i (k : Tr)
  | c (x : AV) (S : AS) (k : Tr)
  | s (l h : Nat) (k : Tr)
  | l (ks : List Nat) (al : List Alt) (k : List Tr)
  | g (ks : List Nat) (al : List Alt) (k : List Tr)
  | q

/-- Questions: what a tree does not say yet. -/
inductive AskT (b : Bool) (A B : Tr → Prop) : Prop
inductive AskC (g : FuncId) (args : List AV) (S : AS) (K : AV → AS → Tr → Prop) (I : Tr → Prop) : Prop
inductive AskY (l : Nat) (args : List AV) (S : AS) (K : AV → AS → Tr → Prop) : Prop
inductive AskA (ys : List AV) (A B : Tr → Prop) : Prop
inductive AskI (x : Option AV) (R : AV → Tr → Prop) : Prop
inductive AskS (F : Nat → Nat → Tr → Prop) : Prop

abbrev KO := AV → AS → Tr → Prop

def gtest (b : Bool) (tr : Tr) (A B : Tr → Prop) : Prop :=
  match tr with
  | .t k => b = true ∧ A k
  | .f k => b = false ∧ B k
  | .b k l => (b = true → A k) ∧ (b = false → B l)
  | .r k => match b with
    | true => A k
    | false => B k
  | .q => AskT b A B
  | _ => False

theorem gtest_use {b : Bool} {tr : Tr} {A B : Tr → Prop} (h : gtest b tr A B) : (b = true → ∃ tr, A tr) ∧ (b = false → ∃ tr, B tr) := by
  unfold gtest at h
  split at h
  · exact ⟨fun _ => ⟨_, h.2⟩, fun e => by rw [h.1] at e; cases e⟩
  · exact ⟨fun e => (by rw [h.1] at e; cases e), fun _ => ⟨_, h.2⟩⟩
  · exact ⟨fun e => ⟨_, h.1 e⟩, fun e => ⟨_, h.2 e⟩⟩
  · split at h
    · exact ⟨fun _ => ⟨_, h⟩, fun e => by cases e⟩
    · exact ⟨fun e => (by cases e), fun _ => ⟨_, h⟩⟩
  · cases h
  · exact h.elim

theorem gtest_ifH {b : Bool} {tr : Tr} {A B : Tr → Prop} (h : gtest b tr A B) : ifH b (∃ tr, A tr) (∃ tr, B tr) := ⟨(gtest_use h).1, (gtest_use h).2⟩

def ikEq (a b : IntKind) : Bool := match a, b with
  | .i8, .i8 | .i16, .i16 | .i32, .i32 | .i64, .i64 | .u8, .u8 | .u16, .u16 | .u32, .u32 | .u64, .u64 => true
  | _, _ => false
theorem ikEq_eq {a b : IntKind} (h : ikEq a b = true) : a = b := by cases a <;> cases b <;> first | rfl | cases h

/-- If this closed test holds. -/
def gif (b : Bool) (A : Prop) : Prop := match b with
  | true => A
  | false => False
theorem gif_use {b : Bool} {A : Prop} (h : gif b A) : b = true ∧ A := by
  cases b with
  | true => exact ⟨rfl, h⟩
  | false => exact h.elim

def gbin (P : Program) (op : BinOp) (T : TypeId) (X Y : AV) (R : AV → Prop) : Prop :=
  match X, Y with
  | .sc (.int k a), .sc (.int k' b) => gif (ikEq k' k) (aintw op k a b (fun v => R (.sc v)))
  | .sc (.bool a), .sc (.bool b) => gif (tkIs (kindOf P T) .bool) (eqlR op (a == b) R)
  | .agg xs, .agg ys => match aggEqw P T xs ys with
    | some r => eqlR op r R
    | none => False
  | .ptr b f, .sc (.pointer none) => gif (tkIs (kindOf P T) .ptr) (eqlR op false R)
  | .sc (.pointer none), .sc (.pointer none) => gif (tkIs (kindOf P T) .ptr) (eqlR op true R)
  | .sl _ _ _, .sc (.slice none _ _) => gif (tkIs (kindOf P T) .slice) (eqlR op false R)
  | .sc (.slice none _ _), .sc (.slice none _ _) => gif (tkIs (kindOf P T) .slice) (eqlR op true R)
  | _, _ => False

theorem gbin_abinw {P : Program} {op : BinOp} {T : TypeId} {X Y : AV} {R : AV → Prop} (h : gbin P op T X Y R) : abinw P op T X Y R := by
  unfold gbin at h
  unfold abinw
  split at h
  · exact ⟨ikEq_eq (gif_use h).1, (gif_use h).2⟩
  · exact ⟨tkIs_eq (gif_use h).1, (gif_use h).2⟩
  · split at h
    · rename_i r he; exact someH_of he h
    · exact h.elim
  · exact ⟨tkIs_eq (gif_use h).1, (gif_use h).2⟩
  · exact ⟨tkIs_eq (gif_use h).1, (gif_use h).2⟩
  · exact ⟨tkIs_eq (gif_use h).1, (gif_use h).2⟩
  · exact ⟨tkIs_eq (gif_use h).1, (gif_use h).2⟩
  · exact h.elim

/-- A call that turns the state. -/
structure CallC (P : Program) (g : FuncId) (args : List AV) (S : AS) (x : AV) (S' : AS) : Prop where
  out : ACall P g args S (fun v S1 => v = x ∧ S1 = S')
structure YldC (P : Program) (l : Nat) (args : List AV) (S : AS) (x : AV) (S' : AS) : Prop where
  out : ∀ (o : Oper) (t : List AV) (f : Operand) (as : Array Operand) (Ts : Array TypeId), o.op = .call { callee := .value f, args := as, argTypes := Ts } → okOp o = true → ev t f = .yld l → as.toList.map (ev t) = args → AOp P o t S (fun v S1 => v = x ∧ S1 = S')

abbrev GI := FuncId → List AV → AS → Tr → KO → Prop

def gcall (P : Program) (G : GI) (g : FuncId) (args : List AV) (S : AS) (tr : Tr) (Kp : KO) : Prop :=
  match tr with
  | .v x k => DCall P g args x ∧ Kp x S k
  | .c x S' k => CallC P g args S x S' ∧ Kp x S' k
  | .i k => G g args S k Kp
  | .q => AskC g args S Kp (fun k => G g args S k Kp)
  | _ => False
def gyld (P : Program) (l : Nat) (args : List AV) (S : AS) (tr : Tr) (Kp : KO) : Prop :=
  match tr with
  | .c x S' k => YldC P l args S x S' ∧ Kp x S' k
  | .q => AskY l args S Kp
  | _ => False

def gfin (X : AV) (S : AS) (e : TypeId) (st bytes : Nat) (ys : List AV) (tr : Tr) (Kp : KO) (xs : List AV) (tok : Option Nat) : Prop :=
  (xs.length + ys.length) * bytes ≤ 140737488355328 ∧
    match tr with
    | .t k => ys ≠ [] ∧ Kp (appV S e st (xs ++ ys) tok) (appS S ((xs.length + ys.length) * st) tok) k
    | .f k => ys = [] ∧ Kp X S k
    | .r k => match ys with
      | [] => Kp X S k
      | _ :: _ => Kp (appV S e st (xs ++ ys) tok) (appS S ((xs.length + ys.length) * st) tok) k
    | .q => AskA ys (Kp (appV S e st (xs ++ ys) tok) (appS S ((xs.length + ys.length) * st) tok)) (Kp X S)
    | _ => False

def gappend (P : Program) (X Y : AV) (T : TypeId) (S : AS) (tr : Tr) (Kp : KO) : Prop :=
  match aapp P T with
  | none => False
  | some (e, st, bytes) => match aelems st Y with
    | none => False
    | some ys => match X with
      | .sc (.slice none 0 0) => gfin X S e st bytes ys tr Kp [] none
      | .sl .ex st' xs => gif (Nat.beq st' st) (gfin X S e st bytes ys tr Kp xs none)
      | .sl (.own t e') st' xs => gif (Nat.beq st' st && Nat.beq e' e) (S.own[t]? = some (xs.length * st) ∧ gfin X S e st bytes ys tr Kp xs (some t))
      | _ => False

def gbuiltin (P : Program) (b : Builtin) (xs : List Operand) (Ts : List TypeId) (e : Operand → AV) (S : AS) (tr : Tr) (Kp : KO) : Prop :=
  match b, xs, Ts with
  | .len, [x], [T] => match kindOf P T with
    | .slice => match alen (e x) with
      | some n => Kp (.sc (.int .i64 n)) S tr
      | none => False
    | .str => match e x with
      | .sc (.string s) => Kp (.sc (.int .i64 s.size)) S tr
      | _ => False
    | _ => False
  | .max, [x, y], _ => match e x, e y with
    | .sc (.int k m), .sc (.int _ n) => Kp (.sc (.int k (Max.max m n))) S tr
    | _, _ => False
  | .min, [x, y], _ => match e x, e y with
    | .sc (.int k m), .sc (.int _ n) => Kp (.sc (.int k (Min.min m n))) S tr
    | _, _ => False
  | .append, [x, y], [T, T'] => gif (Nat.beq T T') (gappend P (e x) (e y) T S tr Kp)
  | _, _, _ => False

def gbound (e : Operand → AV) (y : Option Operand) (d n : Nat) (A : Prop) : Prop :=
  match y with
  | none => n = d ∧ A
  | some y => gif (okConst y) (match e y with
    | .sc (.int _ m) => m = (n : Int) ∧ A
    | _ => False)

theorem gbound_use {e : Operand → AV} {y : Option Operand} {d n : Nat} {A : Prop} (h : gbound e y d n A) : boundE e y d n ∧ A := by
  unfold gbound at h
  unfold boundE
  split at h
  · exact h
  · obtain ⟨h1, h⟩ := gif_use h
    split at h
    · rename_i ki m he
      obtain ⟨rfl, h⟩ := h
      exact ⟨⟨h1, ki, he⟩, h⟩
    · exact h.elim

def gidx (x : Option AV) (tr : Tr) (R : AV → Tr → Prop) : Prop :=
  match tr with
  | .r k => match x with
    | some v => R v k
    | none => False
  | .v a k => x = some a ∧ R a k
  | .q => AskI x R
  | _ => False

theorem gidx_use {x : Option AV} {tr : Tr} {R : AV → Tr → Prop} (h : gidx x tr R) : ∃ v tr, x = some v ∧ R v tr := by
  unfold gidx at h
  split at h
  · split at h
    · exact ⟨_, _, rfl, h⟩
    · exact h.elim
  · exact ⟨_, _, h.1, h.2⟩
  · cases h
  · exact h.elim

def gop (P : Program) (G : GI) (o : Oper) (e : Operand → AV) (S : AS) (tr : Tr) (Kp : KO) : Prop :=
  match o.op with
  | .move x => Kp (e x) S tr
  | .assign x => Kp (e x) S tr
  | .pick c x y => match e c with
    | .sc (.bool b) => gtest b tr (Kp (e x) S) (Kp (e y) S)
    | _ => False
  | .alloc T => match azero P T with
    | some cs => Kp (.ptr S.box.length 0) (S.push cs) tr
    | none => False
  | .box _ x => gif (!(e x).isTup) (Kp (.ptr S.box.length 0) (S.push (e x).cells) tr)
  | .build T parts => match abuild P T (parts.toList.map fun q => (q.1, e q.2)) with
    | some v => Kp v S tr
    | none => False
  | .buildSlice T len parts => match aslc P T with
    | some st => gif (asparts parts len && (Nat.ble (len * st) 16777216 && okCells st (parts.toList.map fun q => e q.2))) (Kp (.sl .ex st (parts.toList.map fun q => e q.2)) S tr)
    | none => False
  | .load T x => match aload P T S (e x) with
    | some v => Kp v S tr
    | none => False
  | .store T x y => match astore P T S (e x) (e y) with
    | some S' => Kp (.tup []) S' tr
    | none => False
  | .nilCheck x => match e x with
    | .ptr b f => Kp (.ptr b f) S tr
    | _ => False
  | .binOp op T x y _ => gbin P op T (e x) (e y) (fun v => Kp v S tr)
  | .unOp .not _ x => match e x with
    | .sc (.bool b) => Kp (.sc (.bool !b)) S tr
    | _ => False
  | .unOp .neg _ x => match e x with
    | .sc (.int k n) => Kp (.sc (.int k (k.wrap (0 - n)))) S tr
    | _ => False
  | .makeFunc fn fs cs => Kp (.clo fn (fs.toList.map e) (cs.toList.map e)) S tr
  | .fieldAddr T x f => match afoff P T f with
    | some n => match ashift n (e x) with
      | some q => Kp q S tr
      | none => False
    | none => False
  | .field T x f => match afield P T f with
    | some (g, n, off) => match e x with
      | .agg cs => match pickCells g n cs off with
        | some v => Kp v S tr
        | none => False
      | _ => False
    | none => False
  | .indexAddr T x i => match e x, e i with
    | .sl _ st xs, .sc (.int _ n) => match aelem P T with
      | some st' => gif (Nat.beq st' st) (0 ≤ n ∧ gidx xs[n.toNat]? tr (fun v tr => Kp (.el v.cells 0) S tr))
      | none => False
    | .ptr b f, .sc (.int _ n) => match aarrP P T with
      | some (len, st) => 0 ≤ n ∧ n < len ∧ Kp (.ptr b (f + n.toNat * st)) S tr
      | none => False
    | _, _ => False
  | .index T x i => match aarr P T with
    | some (len, g, n) => match e x, e i with
      | .agg cs, .sc (.int _ q) => 0 ≤ q ∧ q < len ∧ gidx (pickCells g n cs (q.toNat * n)) tr (fun v tr => Kp v S tr)
      | _, _ => False
    | none => False
  | .extract x n => match e x with
    | .tup vs => match vs[n]? with
      | some v => Kp v S tr
      | none => False
    | _ => False
  | .slice T x lo hi none => match e x with
    | .sl _ st xs => match aelem P T with
      | some st' => gif (Nat.beq st' st) (match tr with
        | .s l h k => gbound e lo 0 l (gbound e hi xs.length h (l ≤ h ∧ h ≤ xs.length ∧ Kp (.sl .ro st ((xs.drop l).take (h - l))) S k))
        | .q => AskS (fun l h k => gbound e lo 0 l (gbound e hi xs.length h (l ≤ h ∧ h ≤ xs.length ∧ Kp (.sl .ro st ((xs.drop l).take (h - l))) S k)))
        | _ => False)
      | none => False
    | .sc (.slice none 0 0) => match aelem P T with
      | some _ => gbound e lo 0 0 (gbound e hi 0 0 (Kp (.sc (.slice none 0 0)) S tr))
      | none => False
    | _ => False
  | .slice T x none (some y) (some z) => match e x, e y, e z with
    | .sl _ st _, .sc (.int _ 0), .sc (.int _ 0) => match aelem P T with
      | some st' => gif (Nat.beq st' st) (Kp (.sl .ex st []) S tr)
      | none => False
    | .sc (.slice none 0 0), .sc (.int _ 0), .sc (.int _ 0) => match aelem P T with
      | some _ => Kp (.sc (.slice none 0 0)) S tr
      | none => False
    | _, _, _ => False
  | .call { callee := .value f, args := args, argTypes := _ } => match e f with
    | .clo (.func g) fs cs => gcall P G g (fs ++ args.toList.map e ++ cs) S tr Kp
    | .yld l => gyld P l (args.toList.map e) S tr Kp
    | _ => False
  | .call { callee := .builtin b, args := args, argTypes := Ts } => gbuiltin P b args.toList Ts.toList e S tr Kp
  | _ => False

section
variable {P : Program} {G : GI} {n : Nat}

def GIok (P : Program) (G : GI) : Prop := ∀ g args S tr (Kp : KO), G g args S tr Kp → ACall P g args S (fun v S' => ∃ tr, Kp v S' tr)

theorem gfin_use {X : AV} {S : AS} {e : TypeId} {st bytes : Nat} {ys : List AV} {tr : Tr} {Kp : KO} {xs : List AV} {tok : Option Nat} (h : gfin X S e st bytes ys tr Kp xs tok) :
    (xs.length + ys.length) * bytes ≤ 140737488355328 ∧ (ys = [] → ∃ tr, Kp X S tr) ∧ (ys ≠ [] → ∃ tr, Kp (appV S e st (xs ++ ys) tok) (appS S ((xs.length + ys.length) * st) tok) tr) := by
  refine ⟨h.1, ?_⟩
  replace h := h.2
  split at h
  · exact ⟨fun e0 => absurd e0 h.1, fun _ => ⟨_, h.2⟩⟩
  · exact ⟨fun _ => ⟨_, h.2⟩, fun e0 => absurd h.1 e0⟩
  · split at h
    · exact ⟨fun _ => ⟨_, h⟩, fun e0 => absurd rfl e0⟩
    · exact ⟨fun e0 => (by cases e0), fun _ => ⟨_, h⟩⟩
  · cases h
  · exact h.elim

theorem gappend_sound {X Y : AV} {T : TypeId} {S : AS} {tr : Tr} {Kp : KO} (h : gappend P X Y T S tr Kp) {e : Operand → AV} {x y : Operand} (hx : e x = X) (hy : e y = Y) :
    abuiltinw P .append [x, y] [T, T] e S (fun v S' => ∃ tr, Kp v S' tr) := by
  subst hx; subst hy
  unfold gappend at h
  unfold abuiltinw
  simp only [true_and]
  split at h
  · exact h.elim
  · rename_i ee st bytes ha
    split at h
    · exact h.elim
    · rename_i ys' hy
      simp only [ha, hy]
      split at h
      · rename_i hX
        have ex : appX S ee st (e x) = some ([], none) := by rw [hX]; rfl
        rw [ex]
        have := gfin_use h
        exact this
      · rename_i st' xs hX
        obtain ⟨h1, h⟩ := gif_use h
        have h1 := Nat.eq_of_beq_eq_true h1
        have ex : appX S ee st (e x) = some (xs, none) := by rw [hX]; simp [appX, h1]
        rw [ex]
        have := gfin_use h
        exact this
      · rename_i t e' st' xs hX
        obtain ⟨h1, h⟩ := gif_use h
        simp only [Bool.and_eq_true] at h1
        have h2 := Nat.eq_of_beq_eq_true h1.1
        have h3 := Nat.eq_of_beq_eq_true h1.2
        have ex : appX S ee st (e x) = some (xs, some t) := by rw [hX]; unfold appX; simp only; rw [if_pos ⟨h2, h3, h.1⟩]
        rw [ex]
        have := gfin_use h.2
        exact this
      · exact h.elim

theorem gop_aopw (hG : GIok P G) {o : Oper} {e : Operand → AV} {S : AS} {tr : Tr} {Kp : KO} (hny : ∀ f as Ts l, o.op = .call { callee := .value f, args := as, argTypes := Ts } → e f ≠ .yld l) (h : gop P G o e S tr Kp) : aopw P o e S (fun v S' => ∃ tr, Kp v S' tr) := by
  unfold gop at h
  unfold aopw
  split at h
  case h_1 ho => simp only [ho]; exact ⟨_, h⟩
  case h_2 ho => simp only [ho]; exact ⟨_, h⟩
  case h_3 ho =>
    simp only [ho]
    split at h
    · rename_i b e1; simp only [e1]; exact gtest_ifH h
    · exact h.elim
  case h_4 ho =>
    simp only [ho]
    split at h
    · rename_i e1; exact someH_of e1 ⟨_, h⟩
    · exact h.elim
  case h_5 ho =>
    simp only [ho]
    obtain ⟨h1, h⟩ := gif_use h
    exact ⟨⟨by simpa using h1, _, h⟩⟩
  case h_6 ho =>
    simp only [ho]
    split at h
    · rename_i e1; simp only [e1]; exact ⟨_, h⟩
    · exact h.elim
  case h_7 ho =>
    simp only [ho]
    split at h
    · rename_i e1
      obtain ⟨h1, h⟩ := gif_use h
      simp only [Bool.and_eq_true] at h1
      exact someH_of e1 ⟨h1.1, Nat.le_of_ble_eq_true h1.2.1, h1.2.2, _, h⟩
    · exact h.elim
  case h_8 ho =>
    simp only [ho]
    split at h
    · rename_i e1; simp only [e1]; exact ⟨_, h⟩
    · exact h.elim
  case h_9 ho =>
    simp only [ho]
    split at h
    · rename_i e1; refine ⟨?_⟩; simp only [e1]; exact ⟨_, h⟩
    · exact h.elim
  case h_10 ho =>
    simp only [ho]
    split at h
    · rename_i e1; simp only [e1]; exact ⟨_, h⟩
    · exact h.elim
  case h_11 ho =>
    simp only [ho]
    exact abinw_mono (gbin_abinw h) (fun v hv => ⟨_, hv⟩)
  case h_12 ho =>
    simp only [ho]
    split at h
    · rename_i e1; simp only [e1]; exact ⟨_, h⟩
    · exact h.elim
  case h_13 ho =>
    simp only [ho]
    split at h
    · rename_i e1; simp only [e1]; exact ⟨_, h⟩
    · exact h.elim
  case h_14 ho => simp only [ho]; exact ⟨_, h⟩
  case h_15 ho =>
    simp only [ho]
    split at h
    · rename_i e1
      simp only [e1]
      split at h
      · rename_i e2; simp only [e2]; exact ⟨_, h⟩
      · exact h.elim
    · exact h.elim
  case h_16 ho =>
    simp only [ho]
    split at h
    · rename_i e1
      split at h
      · rename_i e2
        simp only [e1, e2]
        split at h
        · rename_i e3; simp only [e3]; exact ⟨_, h⟩
        · exact h.elim
      · exact h.elim
    · exact h.elim
  case h_17 ho =>
    simp only [ho]
    split at h
    · rename_i e1 e2
      simp only [e1, e2]
      split at h
      · rename_i e3
        obtain ⟨h1, h⟩ := gif_use h
        have h1 := Nat.eq_of_beq_eq_true h1
        obtain ⟨v, tr, h2, h3⟩ := gidx_use h.2
        exact ⟨by rw [e3, h1], h.1, someW_of h2 ⟨_, h3⟩⟩
      · exact h.elim
    · rename_i e1 e2
      simp only [e1, e2]
      split at h
      · rename_i e3; simp only [e3]; exact ⟨h.1, h.2.1, _, h.2.2⟩
      · exact h.elim
    · exact h.elim
  case h_18 ho =>
    simp only [ho]
    split at h
    · rename_i e1
      split at h
      · rename_i e2 e3
        simp only [e1, e2, e3]
        obtain ⟨v, tr, h2, h3⟩ := gidx_use h.2.2
        exact ⟨h.1, h.2.1, someW_of h2 ⟨_, h3⟩⟩
      · exact h.elim
    · exact h.elim
  case h_19 ho =>
    simp only [ho]
    split at h
    · rename_i e1
      simp only [e1]
      split at h
      · rename_i e2; simp only [e2]; exact ⟨_, h⟩
      · exact h.elim
    · exact h.elim
  case h_20 ho =>
    simp only [ho]
    split at h
    · rename_i e1
      simp only [e1]
      split at h
      · rename_i e2
        obtain ⟨h1, h⟩ := gif_use h
        have h1 := Nat.eq_of_beq_eq_true h1
        split at h
        · obtain ⟨q1, h⟩ := gbound_use h
          obtain ⟨q2, h⟩ := gbound_use h
          exact ⟨by rw [e2, h1], _, _, q1, q2, h.1, h.2.1, _, h.2.2⟩
        · cases h
        · exact h.elim
      · exact h.elim
    · rename_i e1
      simp only [e1]
      split at h
      · rename_i e2
        obtain ⟨q1, h⟩ := gbound_use h
        obtain ⟨q2, h⟩ := gbound_use h
        exact ⟨⟨_, e2⟩, q1, q2, _, h⟩
      · exact h.elim
    · exact h.elim
  case h_21 ho =>
    simp only [ho]
    split at h
    · rename_i e1 e2 e3
      simp only [e1, e2, e3]
      split at h
      · rename_i e4
        obtain ⟨h1, h⟩ := gif_use h
        have h1 := Nat.eq_of_beq_eq_true h1
        exact ⟨by rw [e4, h1], _, h⟩
      · exact h.elim
    · rename_i e1 e2 e3
      simp only [e1, e2, e3]
      split at h
      · rename_i e4; exact ⟨⟨_, e4⟩, _, h⟩
      · exact h.elim
    · exact h.elim
  case h_22 ho =>
    simp only [ho]
    unfold ACallV
    split at h
    · rename_i e1
      simp only [e1]
      unfold gcall at h
      split at h
      · exact ACallH.by h.1 ⟨_, h.2⟩
      · exact ⟨ACall.mono h.1.out (fun v S' hv => by obtain ⟨rfl, rfl⟩ := hv; exact ⟨_, h.2⟩)⟩
      · exact ⟨hG _ _ _ _ _ h⟩
      · cases h
      · exact h.elim
    · rename_i e1
      simp only [e1]
      exact absurd e1 (hny _ _ _ _ ho)
    · exact h.elim
  case h_23 b args Ts ho =>
    simp only [ho]
    unfold gbuiltin at h
    split at h
    · rename_i e1 e2
      unfold abuiltinw
      rw [e1, e2]
      simp only
      split at h
      · rename_i e3
        simp only [e3]
        split at h
        · rename_i e4; simp only [e4]; exact ⟨_, h⟩
        · exact h.elim
      · rename_i e3
        simp only [e3]
        split at h
        · rename_i e4; simp only [e4]; exact ⟨_, h⟩
        · exact h.elim
      · exact h.elim
    · rename_i e1
      unfold abuiltinw
      rw [e1]
      simp only
      split at h
      · rename_i e4 e5; simp only [e4, e5]; exact ⟨_, h⟩
      · exact h.elim
    · rename_i e1
      unfold abuiltinw
      rw [e1]
      simp only
      split at h
      · rename_i e4 e5; simp only [e4, e5]; exact ⟨_, h⟩
      · exact h.elim
    · rename_i e1 e2
      replace h := gif_use h
      have h1 := Nat.eq_of_beq_eq_true h.1
      subst h1
      rw [e1, e2]
      exact gappend_sound h.2 rfl rfl
    · exact h.elim
  case h_24 => exact h.elim

theorem AOp.mono' {o : Oper} {t : List AV} {S : AS} {Kp Kp' : AV → AS → Prop} (h : AOp P o t S Kp) (hk : ∀ v S', Kp v S' → Kp' v S') : AOp P o t S Kp' := AOp.mono h hk

theorem gop_sound (hG : GIok P G) {o : Oper} {t : List AV} {S : AS} {tr : Tr} {Kp : KO} (hok : okOp o = true) (h : gop P G o (ev t) S tr Kp) : AOp P o t S (fun v S' => ∃ tr, Kp v S' tr) := by
  by_cases hny : ∀ f as Ts l, o.op = .call { callee := .value f, args := as, argTypes := Ts } → ev t f ≠ .yld l
  · exact aopw_sound hok (gop_aopw hG hny h)
  · simp only [Classical.not_forall, not_imp, Classical.not_not] at hny
    obtain ⟨f, as, Ts, l, ho, he⟩ := hny
    unfold gop at h
    simp only [ho, he] at h
    unfold gyld at h
    split at h
    · exact AOp.mono (h.1.out o t f as Ts ho hok he rfl) (fun v S' hv => by obtain ⟨rfl, rfl⟩ := hv; exact ⟨_, h.2⟩)
    · cases h
    · exact h.elim

end
end Go.Proofs.Ytfjeopaaplnoaaa.Av
