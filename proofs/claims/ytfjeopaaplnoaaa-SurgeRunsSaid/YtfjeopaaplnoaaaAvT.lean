/-
  THE ABSTRACT WALK, RUN: where all values are known, the kernel reckons what a function does.
-/
import Derived.Test.YtfjeopaaplnoaaaAvQ
namespace Go.Proofs.Ytfjeopaaplnoaaa.Av
open Go Go.RowKit
set_option linter.unusedSimpArgs false
set_option linter.unusedVariables false

def xint (op : BinOp) (k : IntKind) (a b : Int) : Option Value :=
  match op with
  | .add => some (.int k (k.wrap (a + b)))
  | .sub => some (.int k (k.wrap (a - b)))
  | .mul => some (.int k (k.wrap (a * b)))
  | .quo => if b = 0 then none else some (.int k (k.wrap (a.tdiv b)))
  | .rem => if b = 0 then none else some (.int k (a.tmod b))
  | .eql => some (.bool (a == b))
  | .neq => some (.bool (a != b))
  | .lss => some (.bool (decide (a < b)))
  | .leq => some (.bool (decide (a ≤ b)))
  | .gtr => some (.bool (decide (b < a)))
  | .geq => some (.bool (decide (b ≤ a)))
  | _ => none

theorem xint_sound {op : BinOp} {k : IntKind} {a b : Int} {v : Value} (h : xint op k a b = some v) {R : Value → Prop} (hr : R v) : aintw op k a b R := by
  cases op <;> simp only [xint, Option.some.injEq, reduceCtorEq] at h <;> simp only [aintw] <;> first
    | (subst h; exact hr)
    | (split at h
       · cases h
       · rename_i hb; cases h; exact ⟨hb, hr⟩)

def xeql (op : BinOp) (b : Bool) : Option AV :=
  match op with
  | .eql => some (.sc (.bool b))
  | .neq => some (.sc (.bool !b))
  | _ => none

theorem xeql_sound {op : BinOp} {b : Bool} {v : AV} (h : xeql op b = some v) {R : AV → Prop} (hr : R v) : eqlR op b R := by
  cases op <;> simp only [xeql, Option.some.injEq, reduceCtorEq] at h <;> (subst h; exact hr)

def tkIs (a : TK) (b : TK) : Bool := match a, b with
  | .bool, .bool | .str, .str | .ptr, .ptr | .slice, .slice => true
  | _, _ => false

theorem tkIs_eq {a b : TK} (h : tkIs a b = true) : a = b := by cases a <;> cases b <;> first | rfl | cases h

def xbin (P : Program) (op : BinOp) (T : TypeId) (X Y : AV) : Option AV :=
  match X, Y with
  | .sc (.int k a), .sc (.int k' b) => if k' = k then (xint op k a b).map .sc else none
  | .sc (.bool a), .sc (.bool b) => if tkIs (kindOf P T) .bool then xeql op (a == b) else none
  | .agg xs, .agg ys => match aggEqw P T xs ys with
    | some r => xeql op r
    | none => none
  | .ptr _ _, .sc (.pointer none) => if tkIs (kindOf P T) .ptr then xeql op false else none
  | .sc (.pointer none), .sc (.pointer none) => if tkIs (kindOf P T) .ptr then xeql op true else none
  | .sl _ _ _, .sc (.slice none _ _) => if tkIs (kindOf P T) .slice then xeql op false else none
  | .sc (.slice none _ _), .sc (.slice none _ _) => if tkIs (kindOf P T) .slice then xeql op true else none
  | _, _ => none

theorem xbin_sound {P : Program} {op : BinOp} {T : TypeId} {X Y v : AV} (h : xbin P op T X Y = some v) {R : AV → Prop} (hr : R v) : abinw P op T X Y R := by
  unfold xbin at h
  unfold abinw
  split at h
  · split at h
    · rename_i hk
      simp only [Option.map_eq_some_iff] at h
      obtain ⟨u, h1, rfl⟩ := h
      exact ⟨hk, xint_sound h1 hr⟩
    · cases h
  · split at h
    · rename_i hk; exact ⟨tkIs_eq hk, xeql_sound h hr⟩
    · cases h
  · split at h
    · rename_i r he; exact someH_of he (xeql_sound h hr)
    · cases h
  · split at h
    · rename_i hk; exact ⟨tkIs_eq hk, xeql_sound h hr⟩
    · cases h
  · split at h
    · rename_i hk; exact ⟨tkIs_eq hk, xeql_sound h hr⟩
    · cases h
  · split at h
    · rename_i hk; exact ⟨tkIs_eq hk, xeql_sound h hr⟩
    · cases h
  · split at h
    · rename_i hk; exact ⟨tkIs_eq hk, xeql_sound h hr⟩
    · cases h
  · cases h

def xbuiltin (P : Program) (b : Builtin) (xs : List Operand) (Ts : List TypeId) (t : List AV) (S : AS) : Option (AV × AS) :=
  match b, xs, Ts with
  | .len, [x], [T] => match kindOf P T with
    | .slice => match alen (ev t x) with
      | some n => some (.sc (.int .i64 n), S)
      | none => none
    | .str => match ev t x with
      | .sc (.string s) => some (.sc (.int .i64 s.size), S)
      | _ => none
    | _ => none
  | .max, [x, y], _ => match ev t x, ev t y with
    | .sc (.int k m), .sc (.int _ n) => some (.sc (.int k (Max.max m n)), S)
    | _, _ => none
  | .min, [x, y], _ => match ev t x, ev t y with
    | .sc (.int k m), .sc (.int _ n) => some (.sc (.int k (Min.min m n)), S)
    | _, _ => none
  | .append, [x, y], [T, T'] => if T' = T then match aapp P T with
    | some (e, st, bytes) => match appX S e st (ev t x), aelems st (ev t y) with
      | some (xs, tok), some ys => if (xs.length + ys.length) * bytes ≤ 140737488355328 then match ys with
          | [] => some (ev t x, S)
          | _ :: _ => some (appV S e st (xs ++ ys) tok, appS S ((xs.length + ys.length) * st) tok)
        else none
      | _, _ => none
    | none => none
    else none
  | _, _, _ => none

theorem xbuiltin_sound {P : Program} {b : Builtin} {xs : List Operand} {Ts : List TypeId} {t : List AV} {S S' : AS} {v : AV} (h : xbuiltin P b xs Ts t S = some (v, S')) {Kp : AV → AS → Prop} (hk : Kp v S') : abuiltinw P b xs Ts (ev t) S Kp := by
  unfold xbuiltin at h
  unfold abuiltinw
  split at h
  · split at h
    · rename_i hk'
      simp only [hk']
      split at h
      · rename_i hv; simp only [Option.some.injEq, Prod.mk.injEq] at h; obtain ⟨rfl, rfl⟩ := h; simp only [hv]; exact hk
      · cases h
    · rename_i hk'
      simp only [hk']
      split at h
      · rename_i hv; simp only [Option.some.injEq, Prod.mk.injEq] at h; obtain ⟨rfl, rfl⟩ := h; simp only [hv]; exact hk
      · cases h
    · cases h
  · split at h
    · rename_i e1 e2; simp only [Option.some.injEq, Prod.mk.injEq] at h; obtain ⟨rfl, rfl⟩ := h; simp only [e1, e2]; exact hk
    · cases h
  · split at h
    · rename_i e1 e2; simp only [Option.some.injEq, Prod.mk.injEq] at h; obtain ⟨rfl, rfl⟩ := h; simp only [e1, e2]; exact hk
    · cases h
  · split at h
    · rename_i hT
      refine ⟨hT, ?_⟩
      split at h
      · rename_i e st bytes ha
        simp only [ha]
        split at h
        · rename_i xs tok ys e1 e2
          simp only [e1, e2]
          split at h
          · rename_i hle
            refine ⟨hle, ?_⟩
            split at h
            · simp only [Option.some.injEq, Prod.mk.injEq] at h
              obtain ⟨rfl, rfl⟩ := h
              exact ⟨fun _ => hk, fun h => absurd rfl h⟩
            · simp only [Option.some.injEq, Prod.mk.injEq] at h
              obtain ⟨rfl, rfl⟩ := h
              exact ⟨fun h => (by cases h), fun _ => hk⟩
          · cases h
        · cases h
      · cases h
    · cases h
  · cases h

def xbound (t : List AV) (y : Option Operand) (d : Nat) : Option Nat :=
  match y with
  | none => some d
  | some y => if okConst y then match ev t y with
    | .sc (.int _ (.ofNat n)) => some n
    | _ => none
    else none

theorem xbound_sound {t : List AV} {y : Option Operand} {d n : Nat} (h : xbound t y d = some n) : boundIs t y d n := by
  unfold xbound at h
  unfold boundIs boundE
  split at h
  · cases h; rfl
  · split at h
    · rename_i hk
      split at h
      · rename_i ki m he; cases h; exact ⟨hk, ki, he⟩
      · cases h
    · cases h

section
variable (P : Program) (xc : FuncId → List AV → AS → Option (AV × AS)) (xy : Nat → List AV → AS → Option (AV × AS))

def xop (o : Oper) (t : List AV) (S : AS) : Option (AV × AS) :=
  match o.op with
  | .move x => some (ev t x, S)
  | .assign x => some (ev t x, S)
  | .pick c x y => match ev t c with
    | .sc (.bool b) => some (if b then ev t x else ev t y, S)
    | _ => none
  | .alloc T => match azero P T with
    | some cs => some (.ptr S.box.length 0, S.push cs)
    | none => none
  | .box _ x => if (ev t x).isTup then none else some (.ptr S.box.length 0, S.push (ev t x).cells)
  | .build T parts => match abuild P T (parts.toList.map fun q => (q.1, ev t q.2)) with
    | some v => some (v, S)
    | none => none
  | .buildSlice T len parts => match aslc P T with
    | some st => if asparts parts len && decide (len * st ≤ 16777216) && okCells st (parts.toList.map fun q => ev t q.2) then some (.sl .ex st (parts.toList.map fun q => ev t q.2), S) else none
    | none => none
  | .load T x => match aload P T S (ev t x) with
    | some v => some (v, S)
    | none => none
  | .store T x y => match astore P T S (ev t x) (ev t y) with
    | some S' => some (.tup [], S')
    | none => none
  | .nilCheck x => match ev t x with
    | .ptr b f => some (.ptr b f, S)
    | _ => none
  | .binOp op T x y _ => match xbin P op T (ev t x) (ev t y) with
    | some v => some (v, S)
    | none => none
  | .unOp .not _ x => match ev t x with
    | .sc (.bool b) => some (.sc (.bool !b), S)
    | _ => none
  | .unOp .neg _ x => match ev t x with
    | .sc (.int k n) => some (.sc (.int k (k.wrap (0 - n))), S)
    | _ => none
  | .makeFunc fn fs cs => some (.clo fn (fs.toList.map (ev t)) (cs.toList.map (ev t)), S)
  | .fieldAddr T x f => match afoff P T f with
    | some n => match ashift n (ev t x) with
      | some q => some (q, S)
      | none => none
    | none => none
  | .field T x f => match afield P T f, ev t x with
    | some (g, n, off), .agg cs => match pickCells g n cs off with
      | some v => some (v, S)
      | none => none
    | _, _ => none
  | .indexAddr T x i => match ev t x, ev t i with
    | .sl _ st xs, .sc (.int _ n) => if aelem P T = some st ∧ 0 ≤ n then match xs[n.toNat]? with
      | some v => some (.el v.cells 0, S)
      | none => none
      else none
    | _, _ => none
  | .index T x i => match aarr P T, ev t x, ev t i with
    | some (len, g, n), .agg cs, .sc (.int _ q) => if 0 ≤ q ∧ q < len then match pickCells g n cs (q.toNat * n) with
      | some v => some (v, S)
      | none => none
      else none
    | _, _, _ => none
  | .extract x n => match ev t x with
    | .tup vs => match vs[n]? with
      | some v => some (v, S)
      | none => none
    | _ => none
  | .slice T x lo hi none => match ev t x with
    | .sl _ st xs => if aelem P T = some st then match xbound t lo 0, xbound t hi xs.length with
      | some l, some h => if l ≤ h ∧ h ≤ xs.length then some (.sl .ro st ((xs.drop l).take (h - l)), S) else none
      | _, _ => none
      else none
    | .sc (.slice none 0 0) => if (aelem P T).isSome then match xbound t lo 0, xbound t hi 0 with
      | some 0, some 0 => some (.sc (.slice none 0 0), S)
      | _, _ => none
      else none
    | _ => none
  | .slice T x none (some y) (some z) => match ev t x, ev t y, ev t z with
    | .sl _ st _, .sc (.int _ 0), .sc (.int _ 0) => if aelem P T = some st then some (.sl .ex st [], S) else none
    | .sc (.slice none 0 0), .sc (.int _ 0), .sc (.int _ 0) => if (aelem P T).isSome then some (.sc (.slice none 0 0), S) else none
    | _, _, _ => none
  | .call { callee := .value f, args := args, argTypes := _ } => match ev t f with
    | .clo (.func g) fs cs => xc g (fs ++ args.toList.map (ev t) ++ cs) S
    | .yld l => xy l (args.toList.map (ev t)) S
    | _ => none
  | .call { callee := .builtin b, args := args, argTypes := Ts } => xbuiltin P b args.toList Ts.toList t S
  | _ => none

variable {P xc xy}

theorem xop_sound (hc : ∀ f args S v S' (Q : AV → AS → Prop), xc f args S = some (v, S') → Q v S' → ACall P f args S Q) (hy : ∀ l args S v S' (Q : AV → AS → Prop), xy l args S = some (v, S') → Q v S' → AYield P l args S Q)
    {o : Oper} {t : List AV} {S S' : AS} {v : AV} (h : xop P xc xy o t S = some (v, S')) {Kp : AV → AS → Prop} (hk : Kp v S') : aopw P o (ev t) S Kp := by
  unfold xop at h
  unfold aopw
  split at h
  case h_1 ho =>
    simp only [ho]
    simp only [Option.some.injEq, Prod.mk.injEq] at h; obtain ⟨rfl, rfl⟩ := h; exact hk
  case h_2 ho =>
    simp only [ho]
    simp only [Option.some.injEq, Prod.mk.injEq] at h; obtain ⟨rfl, rfl⟩ := h; exact hk
  case h_3 ho =>
    simp only [ho]
    split at h
    · rename_i b e
      simp only [Option.some.injEq, Prod.mk.injEq] at h; obtain ⟨rfl, rfl⟩ := h
      simp only [e]
      cases b with
      | true => exact ⟨fun _ => hk, fun k => by cases k⟩
      | false => exact ⟨fun k => (by cases k), fun _ => hk⟩
    · cases h
  case h_4 ho =>
    simp only [ho]
    split at h
    · rename_i e; simp only [Option.some.injEq, Prod.mk.injEq] at h; obtain ⟨rfl, rfl⟩ := h; exact someH_of e hk
    · cases h
  case h_5 ho =>
    simp only [ho]
   
    split at h
    · cases h
    · rename_i e; simp only [Option.some.injEq, Prod.mk.injEq] at h; obtain ⟨rfl, rfl⟩ := h; exact ⟨⟨by simpa using e, hk⟩⟩
  case h_6 ho =>
    simp only [ho]
   
    split at h
    · rename_i e; simp only [Option.some.injEq, Prod.mk.injEq] at h; obtain ⟨rfl, rfl⟩ := h; simp only [e]; exact hk
    · cases h
  case h_7 ho =>
    simp only [ho]
    split at h
    · rename_i e
      split at h
      · rename_i hb
        simp only [Bool.and_eq_true, decide_eq_true_eq] at hb
        simp only [Option.some.injEq, Prod.mk.injEq] at h; obtain ⟨rfl, rfl⟩ := h
        exact someH_of e ⟨hb.1.1, hb.1.2, hb.2, hk⟩
      · cases h
    · cases h
  case h_8 ho =>
    simp only [ho]
   
    split at h
    · rename_i e; simp only [Option.some.injEq, Prod.mk.injEq] at h; obtain ⟨rfl, rfl⟩ := h; simp only [e]; exact hk
    · cases h
  case h_9 ho =>
    simp only [ho]
   
    split at h
    · rename_i e; simp only [Option.some.injEq, Prod.mk.injEq] at h; obtain ⟨rfl, rfl⟩ := h; refine ⟨?_⟩; simp only [e]; exact hk
    · cases h
  case h_10 ho =>
    simp only [ho]
   
    split at h
    · rename_i e; simp only [Option.some.injEq, Prod.mk.injEq] at h; obtain ⟨rfl, rfl⟩ := h; simp only [e]; exact hk
    · cases h
  case h_11 ho =>
    simp only [ho]
   
    split at h
    · rename_i e; simp only [Option.some.injEq, Prod.mk.injEq] at h; obtain ⟨rfl, rfl⟩ := h; exact xbin_sound e hk
    · cases h
  case h_12 ho =>
    simp only [ho]
   
    split at h
    · rename_i e; simp only [Option.some.injEq, Prod.mk.injEq] at h; obtain ⟨rfl, rfl⟩ := h; simp only [e]; exact hk
    · cases h
  case h_13 ho =>
    simp only [ho]
   
    split at h
    · rename_i e; simp only [Option.some.injEq, Prod.mk.injEq] at h; obtain ⟨rfl, rfl⟩ := h; simp only [e]; exact hk
    · cases h
  case h_14 ho =>
    simp only [ho]
    simp only [Option.some.injEq, Prod.mk.injEq] at h; obtain ⟨rfl, rfl⟩ := h; exact hk
  case h_15 ho =>
    simp only [ho]
   
    split at h
    · rename_i e1
      simp only [e1]
      split at h
      · rename_i e; simp only [Option.some.injEq, Prod.mk.injEq] at h; obtain ⟨rfl, rfl⟩ := h; simp only [e]; exact hk
      · cases h
    · cases h
  case h_16 ho =>
    simp only [ho]
   
    split at h
    · rename_i e1 e2
      simp only [e1, e2]
      split at h
      · rename_i e; simp only [Option.some.injEq, Prod.mk.injEq] at h; obtain ⟨rfl, rfl⟩ := h; simp only [e]; exact hk
      · cases h
    · cases h
  case h_17 ho =>
    simp only [ho]
   
    split at h
    · rename_i e1 e2
      simp only [e1, e2]
      split at h
      · rename_i hb
        split at h
        · rename_i e; simp only [Option.some.injEq, Prod.mk.injEq] at h; obtain ⟨rfl, rfl⟩ := h; exact ⟨hb.1, hb.2, someW_of e hk⟩
        · cases h
      · cases h
    · cases h
  case h_18 ho =>
    simp only [ho]
   
    split at h
    · rename_i e1 e2 e3
      simp only [e1, e2, e3]
      split at h
      · rename_i hb
        split at h
        · rename_i e; simp only [Option.some.injEq, Prod.mk.injEq] at h; obtain ⟨rfl, rfl⟩ := h; exact ⟨hb.1, hb.2, someW_of e hk⟩
        · cases h
      · cases h
    · cases h
  case h_19 ho =>
    simp only [ho]
   
    split at h
    · rename_i e1
      simp only [e1]
      split at h
      · rename_i e; simp only [Option.some.injEq, Prod.mk.injEq] at h; obtain ⟨rfl, rfl⟩ := h; simp only [e]; exact hk
      · cases h
    · cases h
  case h_20 ho =>
    simp only [ho]
   
    split at h
    · rename_i e1
      simp only [e1]
      split at h
      · rename_i ha
        split at h
        · rename_i l hh b1 b2
          split at h
          · rename_i hb; simp only [Option.some.injEq, Prod.mk.injEq] at h; obtain ⟨rfl, rfl⟩ := h
            exact ⟨ha, l, hh, xbound_sound b1, xbound_sound b2, hb.1, hb.2, hk⟩
          · cases h
        · cases h
      · cases h
    · rename_i e1
      simp only [e1]
      split at h
      · rename_i ha
        split at h
        · rename_i b1 b2
          simp only [Option.some.injEq, Prod.mk.injEq] at h; obtain ⟨rfl, rfl⟩ := h
          exact ⟨Option.isSome_iff_exists.1 ha, xbound_sound b1, xbound_sound b2, hk⟩
        · cases h
      · cases h
    · cases h
  case h_21 ho =>
    simp only [ho]
   
    split at h
    · rename_i e1 e2 e3
      simp only [e1, e2, e3]
      split at h
      · rename_i hb; simp only [Option.some.injEq, Prod.mk.injEq] at h; obtain ⟨rfl, rfl⟩ := h; exact ⟨hb, hk⟩
      · cases h
    · rename_i e1 e2 e3
      simp only [e1, e2, e3]
      split at h
      · rename_i hb; simp only [Option.some.injEq, Prod.mk.injEq] at h; obtain ⟨rfl, rfl⟩ := h; exact ⟨Option.isSome_iff_exists.1 hb, hk⟩
      · cases h
    · cases h
  case h_22 ho =>
    simp only [ho]
   
    unfold ACallV
    split at h
    · rename_i e; simp only [e]; exact ⟨hc _ _ _ _ _ _ h hk⟩
    · rename_i e; simp only [e]; exact ⟨hy _ _ _ _ _ _ h hk⟩
    · cases h
  case h_23 ho =>
    simp only [ho]
    exact xbuiltin_sound h hk
  case h_24 => cases h

def xops (ops : Array Oper) (xo : Oper → List AV → AS → Option (AV × AS)) : List Oper → List AV → AS → Option (List AV × AS)
  | [], t, S => some (t, S)
  | o :: l, t, S => if awanted ops t o then match xo o t S with
      | some (v, S') => xops ops xo l (putA t o.dst v) S'
      | none => none
    else xops ops xo l (putA t o.dst (.tup [])) S

theorem xops_sound {ops : Array Oper} {xo : Oper → List AV → AS → Option (AV × AS)} (hx : ∀ o t S v S' (Kp : AV → AS → Prop), xo o t S = some (v, S') → Kp v S' → aopw P o (ev t) S Kp) {Q : List AV → AS → Prop} {t' : List AV} {S' : AS} :
    ∀ (l : List Oper) (t : List AV) (S : AS), xops ops xo l t S = some (t', S') → Q t' S' → AWe P ops Q l t S
  | [], t, S, h, hq => by simp only [xops, Option.some.injEq, Prod.mk.injEq] at h; obtain ⟨rfl, rfl⟩ := h; exact hq
  | o :: l, t, S, h, hq => by
    unfold xops at h
    unfold AWe
    split at h
    · rename_i hw
      refine ifB_of_true hw ?_
      split at h
      · rename_i v S1 e
        exact hx _ _ _ _ _ _ e (xops_sound hx l _ _ h hq)
      · cases h
    · rename_i hw
      exact ifB_of_false (by simpa using hw) (xops_sound hx l _ _ h hq)

/-- What leaves the state alone. -/
def xdet (P : Program) (xf : FuncId → List AV → Option AV) (o : Oper) (t : List AV) (S : AS) : Option AV :=
  match o.op with
  | .call { callee := .value f, args := args, argTypes := _ } => match ev t f with
    | .clo (.func g) fs cs => xf g (fs ++ args.toList.map (ev t) ++ cs)
    | _ => none
  | _ => (xop P (fun _ _ _ => none) (fun _ _ _ => none) o t S).map (·.1)

theorem xbuiltin_same {b : Builtin} {xs : List Operand} {Ts : List TypeId} {t : List AV} {S S' : AS} {v : AV} (hb : b = .len ∨ b = .max ∨ b = .min) (h : xbuiltin P b xs Ts t S = some (v, S')) : S' = S := by
  unfold xbuiltin at h
  split at h
  · split at h
    · split at h
      · simp only [Option.some.injEq, Prod.mk.injEq] at h; exact h.2.symm
      · cases h
    · split at h
      · simp only [Option.some.injEq, Prod.mk.injEq] at h; exact h.2.symm
      · cases h
    · cases h
  · split at h
    · simp only [Option.some.injEq, Prod.mk.injEq] at h; exact h.2.symm
    · cases h
  · split at h
    · simp only [Option.some.injEq, Prod.mk.injEq] at h; exact h.2.symm
    · cases h
  · rcases hb with hb | hb | hb <;> cases hb
  · cases h

theorem xop_same {o : Oper} {t : List AV} {S S' : AS} {v : AV} (hd : detOp o.op = true) (h : xop P (fun _ _ _ => none) (fun _ _ _ => none) o t S = some (v, S')) : S' = S := by
  unfold xop at h
  split at h
  case h_4 ho =>
    rw [ho] at hd; cases hd
  case h_5 ho =>
    rw [ho] at hd; cases hd
  case h_9 ho =>
    rw [ho] at hd; cases hd
  case h_22 ho =>
    split at h <;> cases h
  case h_23 b _ _ ho =>
    rw [ho] at hd
    refine xbuiltin_same ?_ h
    unfold detOp at hd
    split at hd <;> simp_all
  all_goals first
    | (simp only [Option.some.injEq, Prod.mk.injEq] at h; exact h.2.symm)
    | (cases h; done)
    | (split at h <;> first
        | (simp only [Option.some.injEq, Prod.mk.injEq] at h; exact h.2.symm)
        | (cases h; done)
        | (split at h <;> first
            | (simp only [Option.some.injEq, Prod.mk.injEq] at h; exact h.2.symm)
            | (cases h; done)
            | (split at h <;> first
                | (simp only [Option.some.injEq, Prod.mk.injEq] at h; exact h.2.symm)
                | (cases h; done)
                | (split at h <;> first
                    | (simp only [Option.some.injEq, Prod.mk.injEq] at h; exact h.2.symm)
                    | (cases h; done)))))

theorem xdet_sound {xf : FuncId → List AV → Option AV} (hf : ∀ f args v, xf f args = some v → DCall P f args v) {o : Oper} {t : List AV} {S : AS} {v : AV} (hd : detOp o.op = true) (h : xdet P xf o t S = some v) {R : AV → Prop} (hr : R v) : adetw P o (ev t) S R := by
  unfold adetw
  split
  · rename_i f args Ts ho
    unfold xdet at h
    simp only [ho] at h
    split at h
    · rename_i g fs cs e
      unfold callW
      simp only [e]
      exact callG.by (hf _ _ _ h) hr
    · cases h
  · rename_i hc
    unfold xdet at h
    split at h
    · rename_i f args Ts ho
      exact absurd ho (hc f args Ts)
    · simp only [Option.map_eq_some_iff, Prod.exists] at h
      obtain ⟨v', S', h1, rfl⟩ := h
      have hs := xop_same hd h1
      subst hs
      exact xop_sound (fun _ _ _ _ _ _ h => by cases h) (fun _ _ _ _ _ _ h => by cases h) h1 ⟨rfl, hr⟩

mutual
def avEq : AV → AV → Bool
  | .sc (.int k a), .sc (.int k' b) => decide (k = k') && decide (a = b)
  | .sc (.bool a), .sc (.bool b) => a == b
  | .sc (.pointer none), .sc (.pointer none) => true
  | .sc (.slice none 0 0), .sc (.slice none 0 0) => true
  | .sl .ro st xs, .sl .ro st' ys => decide (st = st') && avEqL xs ys
  | .sl .ex st xs, .sl .ex st' ys => decide (st = st') && avEqL xs ys
  | .sl (.own t e) st xs, .sl (.own t' e') st' ys => decide (t = t') && (decide (e = e') && (decide (st = st') && avEqL xs ys))
  | .ptr b o, .ptr b' o' => decide (b = b') && decide (o = o')
  | .agg xs, .agg ys => avEqL xs ys
  | .tup xs, .tup ys => avEqL xs ys
  | _, _ => false
def avEqL : List AV → List AV → Bool
  | [], [] => true
  | x :: xs, y :: ys => avEq x y && avEqL xs ys
  | _, _ => false
end

mutual
theorem avEq_eq : ∀ (x y : AV), avEq x y = true → x = y := by
  intro x y h
  unfold avEq at h
  split at h
  · simp only [Bool.and_eq_true, decide_eq_true_eq] at h; rw [h.1, h.2]
  · simp only [beq_iff_eq] at h; rw [h]
  · rfl
  · rfl
  · simp only [Bool.and_eq_true, decide_eq_true_eq] at h; rw [h.1, avEqL_eq _ _ h.2]
  · simp only [Bool.and_eq_true, decide_eq_true_eq] at h; rw [h.1, avEqL_eq _ _ h.2]
  · simp only [Bool.and_eq_true, decide_eq_true_eq] at h; rw [h.1, h.2.1, h.2.2.1, avEqL_eq _ _ h.2.2.2]
  · simp only [Bool.and_eq_true, decide_eq_true_eq] at h; rw [h.1, h.2]
  · rw [avEqL_eq _ _ h]
  · rw [avEqL_eq _ _ h]
  · cases h
theorem avEqL_eq : ∀ (xs ys : List AV), avEqL xs ys = true → xs = ys := by
  intro xs ys h
  unfold avEqL at h
  split at h
  · rfl
  · simp only [Bool.and_eq_true] at h
    rw [avEq_eq _ _ h.1, avEqL_eq _ _ h.2]
  · cases h
end

/-- What comes up late yields the same. -/
def lateB (P : Program) (late : Late) (wt : Nat → Bool) (S : AS) : Bool :=
  late.all fun q => wt q.1 || (detOp q.2.1.op && (okOp q.2.1 && match xop P (fun _ _ _ => none) (fun _ _ _ => none) q.2.1 q.2.2.1 S with
    | some r => avEq r.1 q.2.2.2
    | none => false))

theorem lateB_sound {late : Late} {wt : Nat → Bool} {S : AS} (h : lateB P late wt S = true) : LateOk P late wt S := by
  intro q hq hw
  simp only [lateB, List.all_eq_true] at h
  have := h q hq
  rw [hw] at this
  simp only [Bool.false_or, Bool.and_eq_true] at this
  obtain ⟨h1, h2, h3⟩ := this
  split at h3
  · rename_i r hr
    obtain ⟨v, S'⟩ := r
    have hs := xop_same h1 hr
    subst hs
    exact aopw_sound h2 (xop_sound (fun _ _ _ _ _ _ h => by cases h) (fun _ _ _ _ _ _ h => by cases h) hr ⟨avEq_eq _ _ h3, rfl⟩)
  · cases h3

def xgo (P : Program) (xf : FuncId → List AV → Option AV) (xo : Oper → List AV → AS → Option (AV × AS)) (ix : Oper → Bool) (ops : Array Oper) : Nat → List Oper → Late → List (List AV) → List AV → AS → Option (List AV × AS)
  | _, [], _, pa, t, S => some (t, S.pushes pa)
  | k, o :: l, late, pa, t, S =>
    if isA o then match o.op with
      | .alloc T => match azero P T with
        | some cs => xgo P xf xo ix ops (k + 1) l late (pa ++ [cs]) (putA t o.dst (.ptr (S.box.length + pa.length) 0)) S
        | none => none
      | _ => none
    else if ix o then
      if awanted ops t o then match xo o t (S.pushes pa) with
        | some (v, S') => if lateB P late (waits ops k) S' then xgo P xf xo ix ops (k + 1) l late [] (putA t o.dst v) S' else none
        | none => none
      else if lateB P late (waits ops k) (S.pushes pa) then xgo P xf xo ix ops (k + 1) l late [] (putA t o.dst (.tup [])) (S.pushes pa) else none
    else if awanted ops t o then
      if detOp o.op then match xdet P xf o t S with
        | some v => xgo P xf xo ix ops (k + 1) l (if indepOp o.op then late else (k, o, t, v) :: late) pa (putA t o.dst v) S
        | none => none
      else none
    else xgo P xf xo ix ops (k + 1) l late pa (putA t o.dst (.tup [])) S

theorem xgo_sound {xf : FuncId → List AV → Option AV} {xo : Oper → List AV → AS → Option (AV × AS)} (hf : ∀ f args v, xf f args = some v → DCall P f args v) (hx : ∀ o t S v S' (Kp : AV → AS → Prop), xo o t S = some (v, S') → Kp v S' → aopw P o (ev t) S Kp)
    {ix : Oper → Bool} {ops : Array Oper} (hok : ∀ o ∈ ops.toList, okOp o = true) {Q : List AV → AS → Prop} {t' : List AV} {S' : AS} :
    ∀ (l : List Oper) (k : Nat) (late late2 : Late) (pa : List (List AV)) (t : List AV) (S : AS), (∀ o ∈ l, o ∈ ops.toList) → (∀ q ∈ late2, q ∈ late ∨ ∀ S, ADet P q.2.1 q.2.2.1 S q.2.2.2) → xgo P xf xo ix ops k l late pa t S = some (t', S') → Q t' S' → AWg P ops ix Q k l late2 pa t S
  | [], k, late, late2, pa, t, S, _, _, h, hq => by simp only [xgo, Option.some.injEq, Prod.mk.injEq] at h; obtain ⟨rfl, rfl⟩ := h; exact hq
  | o :: l, k, late, late2, pa, t, S, hm, hl, h, hq => by
    have hoo := hok o (hm o (List.mem_cons_self ..))
    have hm' : ∀ o ∈ l, o ∈ ops.toList := fun x hx => hm x (List.mem_cons_of_mem _ hx)
    have hlate : ∀ {wt : Nat → Bool} {S : AS}, lateB P late wt S = true → LateOk P late2 wt S := fun hb q hq hw => by
      rcases hl q hq with h | h
      · exact lateB_sound hb q h hw
      · exact h _
    unfold xgo at h
    unfold AWg
    split at h
    · rename_i ha
      rw [if_pos ha]
      split at h
      · rename_i T hT
        split at h
        · rename_i cs hz
          exact ⟨T, cs, hT, hz, xgo_sound hf hx hok l (k + 1) late late2 _ _ S hm' hl h hq⟩
        · cases h
      · cases h
    · rename_i ha
      rw [if_neg ha]
      split at h
      · rename_i hi
        rw [if_pos hi]
        split at h
        · rename_i hw
          rw [if_pos hw]
          split at h
          · rename_i v S1 e
            split at h
            · rename_i hb
              exact aopw_sound hoo (hx _ _ _ _ _ _ e ⟨hlate hb, xgo_sound hf hx hok l (k + 1) late late2 _ _ S1 hm' hl h hq⟩)
            · cases h
          · cases h
        · rename_i hw
          rw [if_neg hw]
          split at h
          · rename_i hb
            exact ⟨hlate hb, xgo_sound hf hx hok l (k + 1) late late2 _ _ _ hm' hl h hq⟩
          · cases h
      · rename_i hi
        rw [if_neg hi]
        split at h
        · rename_i hw
          rw [if_pos hw]
          split at h
          · rename_i hd
            split at h
            · rename_i v e
              obtain ⟨v', h1, rfl, h3⟩ := adetw_sound hoo hd (xdet_sound hf hd e (R := fun u => u = v) rfl)
              refine ⟨v', h1, xgo_sound hf hx hok l (k + 1) _ _ pa _ S hm' ?_ h hq⟩
              intro q hq
              rcases List.mem_cons.1 hq with rfl | hq
              · split
                · rename_i hin
                  rcases h3 with h3 | h3
                  · exact .inr h3
                  · rw [hin] at h3; cases h3
                · exact .inl (List.mem_cons_self ..)
              · rcases hl q hq with h | h
                · split
                  · exact .inl h
                  · exact .inl (List.mem_cons_of_mem _ h)
                · exact .inr h
            · cases h
          · cases h
        · rename_i hw
          rw [if_neg hw]
          exact xgo_sound hf hx hok l (k + 1) late late2 pa _ S hm' hl h hq

end

/-! ### Closed values -/

mutual
def closedB : AV → Bool
  | .sc _ => true
  | .sl (.own _ _) _ _ => false
  | .sl _ _ xs => closedL xs
  | .el cs _ => closedL cs
  | .ptr _ _ => false
  | .clo _ fs cs => closedL fs && closedL cs
  | .yld _ => false
  | .agg cs => closedL cs
  | .tup cs => closedL cs
def closedL : List AV → Bool
  | [] => true
  | x :: l => closedB x && closedL l
end

theorem closedL_mem : ∀ (l : List AV), closedL l = true → ∀ x ∈ l, closedB x = true
  | [], _, x, hx => by cases hx
  | a :: l, h, x, hx => by
    simp only [closedL, Bool.and_eq_true] at h
    rcases List.mem_cons.1 hx with rfl | hx
    · exact h.1
    · exact closedL_mem l h.2 x hx

theorem Wf.cells {nb no nl : Nat} {x : AV} (h : Wf nb no nl x) : ∀ c ∈ x.cells, Wf nb no nl c := by
  intro c hc
  cases x with
  | agg cs =>
    cases h with
    | agg h => obtain ⟨i, hi, rfl⟩ := List.mem_iff_getElem.1 hc; exact h i _ (List.getElem?_eq_getElem hi)
  | _ => simp only [AV.cells, List.mem_singleton] at hc; subst hc; exact h

mutual
theorem closedB_wf : ∀ (v : AV), closedB v = true → Wf 0 0 0 v
  | .sc _, _ => .sc
  | .sl k st xs, h => by
    have hl : closedL xs = true := by cases k <;> simp only [closedB, Bool.false_eq_true] at h <;> exact h
    refine .sl (fun t e hk => by subst hk; simp [closedB] at h) (fun i x j c hx hc => ?_)
    exact (closedL_wf xs hl x (List.mem_of_getElem? hx)).cells c (List.mem_of_getElem? hc)
  | .el cs o, h => .el (fun j c hc => closedL_wf cs (by simpa [closedB] using h) c (List.mem_of_getElem? hc))
  | .ptr _ _, h => by simp [closedB] at h
  | .clo fn fs cs, h => by
    simp only [closedB, Bool.and_eq_true] at h
    exact .clo (fun i c hc => closedL_wf fs h.1 c (List.mem_of_getElem? hc)) (fun i c hc => closedL_wf cs h.2 c (List.mem_of_getElem? hc))
  | .yld _, h => by simp [closedB] at h
  | .agg cs, h => .agg (fun j c hc => closedL_wf cs (by simpa [closedB] using h) c (List.mem_of_getElem? hc))
  | .tup cs, h => .tup (fun j c hc => closedL_wf cs (by simpa [closedB] using h) c (List.mem_of_getElem? hc))
theorem closedL_wf : ∀ (l : List AV), closedL l = true → ∀ x ∈ l, Wf 0 0 0 x
  | [], _, x, hx => by cases hx
  | a :: l, h, x, hx => by
    simp only [closedL, Bool.and_eq_true] at h
    rcases List.mem_cons.1 hx with hxa | hx
    · rw [hxa]; exact closedB_wf a h.1
    · exact closedL_wf l h.2 x hx
end

/-- Capacities forgotten: at the top, in a struct's cells, in a tuple. -/
def shut1 : AV → AV
  | .sl _ st xs => .sl .ro st xs
  | v => v
def shut2 : AV → AV
  | .agg cs => .agg (cs.map shut1)
  | v => shut1 v
def shut : AV → AV
  | .tup vs => .tup (vs.map shut2)
  | v => shut2 v

theorem shut1_le (v : AV) : VLe v (shut1 v) := by
  cases v <;> first | exact VLe.ro _ _ _ | exact VLe.refl _
theorem shut1_single (v : AV) (h : v.single = true) : (shut1 v).single = true := by cases v <;> first | rfl | exact h
theorem shut2_le (v : AV) : VLe v (shut2 v) := by
  cases v with
  | agg cs =>
    intro K r hr
    cases hr with
    | agg h1 hg h2 =>
      refine .agg (by simpa using h1) (fun i c hc => ?_) (fun i c r hc hr => ?_)
      · simp only [List.getElem?_map, Option.map_eq_some_iff] at hc
        obtain ⟨x, hx, rfl⟩ := hc
        exact shut1_single _ (hg i x hx)
      · simp only [List.getElem?_map, Option.map_eq_some_iff] at hc
        obtain ⟨x, hx, rfl⟩ := hc
        exact shut1_le x _ _ (h2 i x r hx hr)
  | _ => exact shut1_le _
theorem shut_le (v : AV) : VLe v (shut v) := by
  cases v with
  | tup vs =>
    refine VLe.tup (by simp) (fun i v v' h h' => ?_)
    simp only [List.getElem?_map, h, Option.map_some, Option.some.injEq] at h'
    subst h'
    exact shut2_le v
  | _ => exact shut2_le _

/-! ### The run -/

abbrev XR := Option (Exit × List AV × AS)

def xcallW (P : Program) (run : Code → List AV → AS → XR) (f : FuncId) (args : List AV) (S : AS) : Option (AV × AS) :=
  match P.funcs[f]? with
  | some fn => match fn.body with
    | some c => if callable P f then match run c (args ++ List.replicate (fn.ntmps - args.length) (.tup [])) S with
        | some (.normal, t', S') => (ares P t' S' fn.results.toList).map (·, S')
        | some (.ret, t', S') => (ares P t' S' fn.results.toList).map (·, S')
        | _ => none
      else none
    | none => none
  | none => none

def xcallF (P : Program) (run : Code → List AV → AS → XR) (f : FuncId) (args : List AV) : Option AV :=
  if closedL (args.map shut) then match xcallW P run f (args.map shut) ⟨[], [], []⟩ with
    | some (v, _) => if closedB (shut v) then some (shut v) else none
    | none => none
  else none

def xyldW (run : Code → List AV → AS → XR) (l : Nat) (args : List AV) (S : AS) : Option (AV × AS) :=
  match S.lp[l]? with
  | some L => if args.length = L.params.size then match run L.assign (yldT L.params args L.t) S with
      | some (.normal, t1, S1) => match S1.lp[l]? with
        | some L1 => match L1.st with
          | .ready => match run L.body t1 (S1.setLp l { L1 with st := .busy }) with
            | some (.normal, _, S2) => match S2.lp[l]? with
              | some L2 => some (.sc (.bool true), S2.setLp l { L2 with st := .ready })
              | none => none
            | some (.ret, _, S2) => match S2.lp[l]? with
              | some L2 => some (.sc (.bool false), S2.setLp l { L2 with st := .done .ret })
              | none => none
            | some (.exit id, _, S2) => match S2.lp[l]? with
              | some L2 => some (.sc (.bool false), S2.setLp l { L2 with st := .done (.exit id) })
              | none => none
            | _ => none
          | _ => none
        | none => none
      | _ => none
    else none
  | none => none

/-- Calls may turn the state, too. -/
def ixC (o : Oper) : Bool := !detOp o.op || match o.op with
  | .call _ => true
  | _ => false

def xrun (P : Program) : Nat → Code → List AV → AS → XR
  | 0, _, _, _ => none
  | n + 1, c, t, S => match c with
    | .skip => some (.normal, t, S)
    | .label _ => some (.normal, t, S)
    | .exit id => some (.exit id, t, S)
    | .ret => some (.ret, t, S)
    | .seq a b => match xrun P n a t S with
      | some (.normal, t', S') => xrun P n b t' S'
      | r => r
    | .cond x a b => if okConst x then match ev t x with
        | .sc (.bool true) => xrun P n a t S
        | .sc (.bool false) => xrun P n b t S
        | _ => none
      else none
    | .block id c => match xrun P n c t S with
      | some (.exit id', t', S') => if id' = id then some (.normal, t', S') else some (.exit id', t', S')
      | r => r
    | .loop c => match xrun P n c t S with
      | some (.normal, t', S') => xrun P n (.loop c) t' S'
      | r => r
    | .region _ ops false => if ops.toList.all okOp then (xops ops (xop P (xcallW P (xrun P n)) (xyldW (xrun P n))) ops.toList t S).map (fun q => (.normal, q.1, q.2)) else none
    | .region _ ops true => if ops.toList.all okOp && allocOk P ops then match (if drawOk ops ixD then xgo P (xcallF P (xrun P n)) (xop P (xcallW P (xrun P n)) (xyldW (xrun P n))) ixD ops 0 ops.toList [] [] t S else none) with
        | some q => some (.normal, q.1, q.2)
        | none => if drawOk ops ixC then (xgo P (xcallF P (xrun P n)) (xop P (xcallW P (xrun P n)) (xyldW (xrun P n))) ixC ops 0 ops.toList [] [] t S).map (fun q => (.normal, q.1, q.2)) else none
      else none
    | .rangeFunc f ps assign body => if okConst f then match ev t f with
        | .clo (.func g) fs cs => match xcallW P (xrun P n) g (fs ++ [.yld S.lp.length] ++ cs) (S.pushLp ⟨.ready, t, ps, assign, body⟩) with
          | some (_, S') => match S'.lp[S.lp.length]? with
            | some L => match L.st with
              | .ready => some (.normal, t, S'.setLp S.lp.length { L with st := .over })
              | .done c => xrun P n c t (S'.setLp S.lp.length { L with st := .over })
              | _ => none
            | none => none
          | none => none
        | _ => none
      else none
    | _ => none

section
variable {P : Program}

theorem xcallW_sound {run : Code → List AV → AS → XR} (hr : ∀ c t S e t' S' (Q : Exit → List AV → AS → Prop), run c t S = some (e, t', S') → Q e t' S' → AW P c Q t S)
    {f : FuncId} {args : List AV} {S S' : AS} {v : AV} {Q : AV → AS → Prop} (h : xcallW P run f args S = some (v, S')) (hq : Q v S') : ACall P f args S Q := by
  unfold xcallW at h
  split at h
  · rename_i fn hf
    split at h
    · rename_i c hb
      split at h
      · rename_i hc
        split at h
        · rename_i t' S1 e
          simp only [Option.map_eq_some_iff, Prod.mk.injEq] at h
          obtain ⟨v', h1, rfl, rfl⟩ := h
          exact ACall.of_body_all hf hb hc (hr _ _ _ _ _ _ _ e ⟨v', v', h1, VLe.refl _, hq⟩)
        · rename_i t' S1 e
          simp only [Option.map_eq_some_iff, Prod.mk.injEq] at h
          obtain ⟨v', h1, rfl, rfl⟩ := h
          exact ACall.of_body_all hf hb hc (hr _ _ _ _ _ _ _ e ⟨v', v', h1, VLe.refl _, hq⟩)
        · cases h
      · cases h
    · cases h
  · cases h

theorem ACall.le {f : FuncId} {args : List AV} {S : AS} {v v' : AV} (h : ACall P f args S (fun u _ => u = v)) (hl : VLe v v') : ACall P f args S (fun u _ => u = v') :=
  ⟨h.1, fun K w rs h1 h2 => (h.2 K w rs h1 h2).mono fun _ _ ⟨u, rv, S', K', e1, e2, e3, e4⟩ => ⟨v', rv, S', K', e1, rfl, hl _ _ (e2 ▸ e3), e4⟩⟩

theorem DCall.args {f : FuncId} {args args' : List AV} {v : AV} (h : DCall P f args' v) (hl : args.length = args'.length) (ha : ∀ (i : Nat) x y, args[i]? = some x → args'[i]? = some y → VLe x y) : DCall P f args v := by
  intro S
  refine ⟨(h S).1, fun K w rs h1 h2 => (h S).2 K w rs ⟨hl ▸ h1.1, fun i y r hy hr => ?_⟩ h2⟩
  have hi : i < args.length := by rw [hl]; exact (List.getElem?_eq_some_iff.1 hy).1
  exact ha i _ y (List.getElem?_eq_getElem hi) hy K r (h1.2 i _ r (List.getElem?_eq_getElem hi) hr)

theorem xcallF_sound {run : Code → List AV → AS → XR} (hr : ∀ c t S e t' S' (Q : Exit → List AV → AS → Prop), run c t S = some (e, t', S') → Q e t' S' → AW P c Q t S)
    {f : FuncId} {args : List AV} {v : AV} (h : xcallF P run f args = some v) : DCall P f args v := by
  unfold xcallF at h
  split at h
  · rename_i hc
    split at h
    · rename_i u S1 e
      split at h
      · rename_i hb
        simp only [Option.some.injEq] at h
        subst h
        refine DCall.args (args' := args.map shut) (ACall.frame ((xcallW_sound hr (Q := fun u' _ => u' = u) e rfl).le (shut_le u)) (closedL_wf _ hc) (closedB_wf _ hb)) (by simp) (fun i x y hx hy => ?_)
        simp only [List.getElem?_map, hx, Option.map_some, Option.some.injEq] at hy
        subst hy
        exact shut_le x
      · cases h
    · cases h
  · cases h

theorem xyldW_sound {run : Code → List AV → AS → XR} (hr : ∀ c t S e t' S' (Q : Exit → List AV → AS → Prop), run c t S = some (e, t', S') → Q e t' S' → AW P c Q t S)
    {l : Nat} {args : List AV} {S S' : AS} {v : AV} {Q : AV → AS → Prop} (h : xyldW run l args S = some (v, S')) (hq : Q v S') : AYield P l args S Q := by
  unfold xyldW at h
  split at h
  · rename_i L hL
    split at h
    · rename_i hlen
      split at h
      · rename_i t1 S1 e1
        split at h
        · rename_i L1 hL1
          split at h
          · rename_i hst
            refine ⟨L, hL, hlen, hr _ _ _ _ _ _ _ e1 ⟨L1, hL1, hst, ?_⟩⟩
            split at h
            · rename_i t2 S2 e2
              refine hr _ _ _ _ _ _ _ e2 ?_
              split at h
              · rename_i L2 hL2
                simp only [Option.some.injEq, Prod.mk.injEq] at h
                obtain ⟨rfl, rfl⟩ := h
                exact ⟨L2, hL2, hq⟩
              · cases h
            · rename_i t2 S2 e2
              refine hr _ _ _ _ _ _ _ e2 ?_
              split at h
              · rename_i L2 hL2
                simp only [Option.some.injEq, Prod.mk.injEq] at h
                obtain ⟨rfl, rfl⟩ := h
                exact ⟨L2, hL2, hq⟩
              · cases h
            · rename_i id t2 S2 e2
              refine hr _ _ _ _ _ _ _ e2 ?_
              split at h
              · rename_i L2 hL2
                simp only [Option.some.injEq, Prod.mk.injEq] at h
                obtain ⟨rfl, rfl⟩ := h
                exact ⟨L2, hL2, hq⟩
              · cases h
            · cases h
          · cases h
        · cases h
      · cases h
    · cases h
  · cases h

theorem xrun_sound2 (hm : P.follows .mixedOrders = true) : ∀ (n : Nat) (c : Code) (t : List AV) (S : AS) (e : Exit) (t' : List AV) (S' : AS) (Q : Exit → List AV → AS → Prop), xrun P n c t S = some (e, t', S') → Q e t' S' →
    AW P c Q t S ∧ ∀ d, c = .loop d → AWl P d Q t S
  | 0, c, t, S, e, t', S', Q, h, _ => by simp [xrun] at h
  | n + 1, c, t, S, e, t', S', Q, h, hq => by
    have ih : ∀ (c : Code) t S e t' S' (Q : Exit → List AV → AS → Prop), xrun P n c t S = some (e, t', S') → Q e t' S' → AW P c Q t S := fun c t S e t' S' Q h1 h2 => (xrun_sound2 hm n c t S e t' S' Q h1 h2).1
    have ihl : ∀ (c : Code) t S e t' S' (Q : Exit → List AV → AS → Prop), xrun P n (.loop c) t S = some (e, t', S') → Q e t' S' → AWl P c Q t S := fun c t S e t' S' Q h1 h2 => (xrun_sound2 hm n _ t S e t' S' Q h1 h2).2 c rfl
    have hxo : ∀ o t S v S' (Kp : AV → AS → Prop), xop P (xcallW P (xrun P n)) (xyldW (xrun P n)) o t S = some (v, S') → Kp v S' → aopw P o (ev t) S Kp := fun o t S v S' Kp h1 h2 =>
      xop_sound (fun f args S v S' Q a b => xcallW_sound ih a b) (fun l args S v S' Q a b => xyldW_sound ih a b) h1 h2
    unfold xrun at h
    cases c with
    | skip => simp only [Option.some.injEq, Prod.mk.injEq] at h; obtain ⟨rfl, rfl, rfl⟩ := h; exact ⟨AW.skip hq, fun _ h => by cases h⟩
    | label l => simp only [Option.some.injEq, Prod.mk.injEq] at h; obtain ⟨rfl, rfl, rfl⟩ := h; exact ⟨AW.label hq, fun _ h => by cases h⟩
    | exit id => simp only [Option.some.injEq, Prod.mk.injEq] at h; obtain ⟨rfl, rfl, rfl⟩ := h; exact ⟨AW.exit hq, fun _ h => by cases h⟩
    | ret => simp only [Option.some.injEq, Prod.mk.injEq] at h; obtain ⟨rfl, rfl, rfl⟩ := h; exact ⟨AW.ret hq, fun _ h => by cases h⟩
    | seq a b =>
      refine ⟨?_, fun _ h => by cases h⟩
      simp only at h
      split at h
      · rename_i t1 S1 e1
        exact AW.seq (ih _ _ _ _ _ _ _ e1 (ih _ _ _ _ _ _ _ h hq))
      · rename_i hne
        refine AW.seq (ih _ _ _ _ _ _ _ h ?_)
        cases e with
        | normal => exact absurd h (hne _ _)
        | _ => exact hq
    | cond x a b =>
      refine ⟨?_, fun _ h => by cases h⟩
      simp only at h
      split at h
      · rename_i hk
        split at h
        · rename_i e1; exact AW.cond e1 hk (fun _ => ih _ _ _ _ _ _ _ h hq) (fun h => by cases h)
        · rename_i e1; exact AW.cond e1 hk (fun h => by cases h) (fun _ => ih _ _ _ _ _ _ _ h hq)
        · cases h
      · cases h
    | block id c =>
      refine ⟨?_, fun _ h => by cases h⟩
      simp only at h
      split at h
      · rename_i id' t1 S1 e1
        refine AW.block (ih _ _ _ _ _ _ _ e1 ?_)
        split at h
        · rename_i hid
          simp only [Option.some.injEq, Prod.mk.injEq] at h; obtain ⟨rfl, rfl, rfl⟩ := h
          simp only [blockQ, if_pos hid]; exact hq
        · rename_i hid
          simp only [Option.some.injEq, Prod.mk.injEq] at h; obtain ⟨rfl, rfl, rfl⟩ := h
          simp only [blockQ, if_neg hid]; exact hq
      · rename_i hne
        refine AW.block (ih _ _ _ _ _ _ _ h ?_)
        cases e with
        | exit id' => exact absurd h (hne _ _ _)
        | _ => exact hq
    | loop c =>
      simp only at h
      have key : AWl P c Q t S := by
        split at h
        · rename_i t1 S1 e1
          exact AWl.round (ih _ _ _ _ _ _ _ e1 (ihl _ _ _ _ _ _ _ h hq))
        · rename_i hne
          refine AWl.round (ih _ _ _ _ _ _ _ h ?_)
          cases e with
          | normal => exact absurd h (hne _ _)
          | _ => exact hq
      exact ⟨AW.loop key, fun d hd => by cases hd; exact key⟩
    | region id ops b =>
      refine ⟨?_, fun _ h => by cases h⟩
      cases b with
      | false =>
        simp only at h
        split at h
        · rename_i hok
          simp only [Option.map_eq_some_iff, Prod.mk.injEq] at h
          obtain ⟨⟨t1, S1⟩, h1, rfl, rfl, rfl⟩ := h
          refine awp_sound hm (.region id ops false) (by simpa only [codeOk] using hok) ?_
          exact xops_sound hxo _ _ _ h1 hq
        · cases h
      | true =>
        simp only at h
        split at h
        · rename_i hok
          simp only [Bool.and_eq_true] at hok
          have hoo : ∀ o ∈ ops.toList, okOp o = true := by simpa only [List.all_eq_true] using hok.1
          split at h
          · rename_i q h1
            obtain ⟨t1, S1⟩ := q
            simp only [Option.some.injEq, Prod.mk.injEq] at h
            obtain ⟨rfl, rfl, rfl⟩ := h
            split at h1
            · rename_i hd
              exact AW.draw hm hd hok.2 (xgo_sound (fun f args v a => xcallF_sound ih a) hxo hoo _ _ _ _ _ _ _ (fun _ h => h) (fun q hq => by cases hq) h1 hq)
            · cases h1
          · split at h
            · rename_i hd
              simp only [Option.map_eq_some_iff, Prod.mk.injEq] at h
              obtain ⟨⟨t1, S1⟩, h1, rfl, rfl, rfl⟩ := h
              exact AW.draw hm hd hok.2 (xgo_sound (fun f args v a => xcallF_sound ih a) hxo hoo _ _ _ _ _ _ _ (fun _ h => h) (fun q hq => by cases hq) h1 hq)
            · cases h
        · cases h
    | rangeFunc f ps assign body =>
      refine ⟨?_, fun _ h => by cases h⟩
      simp only at h
      split at h
      · rename_i hk
        split at h
        · rename_i g fs cs e1
          split at h
          · rename_i v1 S1 e2
            refine AW.rangeFunc hk e1 (xcallW_sound ih e2 ?_)
            split at h
            · rename_i L hL
              refine ⟨L, hL, ?_⟩
              split at h
              · rename_i hst
                rw [hst]
                simp only [Option.some.injEq, Prod.mk.injEq] at h; obtain ⟨rfl, rfl, rfl⟩ := h; exact hq
              · rename_i c hst
                rw [hst]
                exact ih _ _ _ _ _ _ _ h hq
              · cases h
            · cases h
          · cases h
        · cases h
      · cases h
    | scope c => cases h
    | goto l => cases h
    | refuse w => cases h

/-- A call without open parts, reckoned by the kernel. -/
theorem DCall.of_run (hm : P.follows .mixedOrders = true) (n : Nat) {f : FuncId} {args : List AV} {v : AV} (h : xcallF P (xrun P n) f args = some v) : DCall P f args v :=
  xcallF_sound (fun c t S e t' S' Q h1 h2 => (xrun_sound2 hm n c t S e t' S' Q h1 h2).1) h

end
end Go.Proofs.Ytfjeopaaplnoaaa.Av
