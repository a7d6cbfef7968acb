/-
  THE ABSTRACT WALK: the operations, one by one (3): arithmetic, structs built, slices, append, calls.
-/
import Derived.Test.YtfjeopaaplnoaaaAvE
namespace Go.Proofs.Ytfjeopaaplnoaaa.Av
open Go Go.RowKit
set_option linter.unusedSimpArgs false

section
variable {P : Program} {o : Oper} {t : List AV} {S : AS} {Kp : AV → AS → Prop}

theorem VR.scv {K : KW} {v r : Value} (h : VR K (.sc v) r) : r = v := by cases h; rfl

/-! ### Arithmetic -/

def aintw (op : BinOp) (k : IntKind) (a b : Int) (R : Value → Prop) : Prop :=
  match op with
  | .add => R (.int k (k.wrap (a + b)))
  | .sub => R (.int k (k.wrap (a - b)))
  | .mul => R (.int k (k.wrap (a * b)))
  | .quo => b ≠ 0 ∧ R (.int k (k.wrap (a.tdiv b)))
  | .rem => b ≠ 0 ∧ R (.int k (a.tmod b))
  | .eql => R (.bool (a == b))
  | .neq => R (.bool (a != b))
  | .lss => R (.bool (decide (a < b)))
  | .leq => R (.bool (decide (a ≤ b)))
  | .gtr => R (.bool (decide (b < a)))
  | .geq => R (.bool (decide (b ≤ a)))
  | _ => False

theorem aintw_run {op : BinOp} {k : IntKind} {a b : Int} {R : Value → Prop} (h : aintw op k a b R) (w : World) : ∃ v, (binOp op 0 (.int k a) (.int k b)).run P w = .ok v w ∧ vflat v = true ∧ R v := by
  cases op <;> simp only [aintw] at h
  case add => exact ⟨_, by simp only [binOp, Op.intArith, ne_eq, not_true_eq_false, if_false]; rfl, rfl, h⟩
  case sub => exact ⟨_, by simp only [binOp, Op.intArith, ne_eq, not_true_eq_false, if_false]; rfl, rfl, h⟩
  case mul => exact ⟨_, by simp only [binOp, Op.intArith, ne_eq, not_true_eq_false, if_false]; rfl, rfl, h⟩
  case quo => exact ⟨_, by simp only [binOp, Op.intDiv, ne_eq, not_true_eq_false, if_false, if_neg h.1]; rfl, rfl, h.2⟩
  case rem => exact ⟨_, by simp only [binOp, Op.intDiv, ne_eq, not_true_eq_false, if_false, if_neg h.1]; rfl, rfl, h.2⟩
  case eql => exact ⟨_, by simp only [binOp, Op.intCmp, ne_eq, not_true_eq_false, if_false]; rfl, rfl, h⟩
  case neq => exact ⟨_, by simp only [binOp, Op.intCmp, ne_eq, not_true_eq_false, if_false]; rfl, rfl, h⟩
  case lss => exact ⟨_, by simp only [binOp, Op.intCmp, ne_eq, not_true_eq_false, if_false]; rfl, rfl, h⟩
  case leq => exact ⟨_, by simp only [binOp, Op.intCmp, ne_eq, not_true_eq_false, if_false]; rfl, rfl, h⟩
  case gtr => exact ⟨_, by simp only [binOp, Op.intCmp, ne_eq, not_true_eq_false, if_false]; rfl, rfl, h⟩
  case geq => exact ⟨_, by simp only [binOp, Op.intCmp, ne_eq, not_true_eq_false, if_false]; rfl, rfl, h⟩

def plainR : Value → Bool
  | .nilIface | .agg _ => false
  | _ => true

theorem eqGuard_plain {op : BinOp} {T : TypeId} {x y : Operand} {a b : Value} (h : plainR b = true) (w : World) :
    (eqGuard op T x y a b).run P w = .ok () w := by
  unfold eqGuard
  cases op <;> simp only [Bool.not_false, Bool.not_true, Bool.false_eq_true, if_true, if_false] <;> first
    | rfl
    | (split <;> first
        | rfl
        | (simp [plainR] at h; done))

theorem exec_bin {op : BinOp} {T T2 : TypeId} {x y : Operand} (ho : o.op = .binOp op T x y T2) (ρ : Operand → Value) (hp : plainR (ρ y) = true) (w : World) :
    (execOp ρ o).run P w = ((binOp op T (ρ x) (ρ y)).run P w).andThen fun v w => .ok (.value v) w := by
  unfold execOp
  rw [ho]
  simp only [Sem.run_bind, eqGuard_plain hp, Result.andThen_ok, Sem.run_pure]

theorem AOp.int {op : BinOp} {T T2 : TypeId} {x y : Operand} {k : IntKind} {a b : Int} (ho : o.op = .binOp op T x y T2) (hx : okConst x = true) (hy : okConst y = true)
    (ex : ev t x = .sc (.int k a)) (ey : ev t y = .sc (.int k b)) (h : aintw op k a b (fun v => Kp (.sc v) S)) : AOp P o t S Kp := by
  refine ⟨by rw [ho]; exact fun _ h => (nomatch h), fun rd K av w h1 h2 _ => ?_⟩
  have e1 := h1.ev x hx (by rw [ho]; simp [Op.operands, Call.operands])
  have e2 := h1.ev y hy (by rw [ho]; simp [Op.operands, Call.operands])
  rw [ex] at e1; rw [ey] at e2
  obtain ⟨v, hv, hf, hk⟩ := aintw_run (P := P) h w
  have hb : binOp op T (.int k a) (.int k b) = binOp op 0 (.int k a) (.int k b) := by cases op <;> rfl
  rw [exec_bin ho _ (by rw [e2.scv]; rfl), e1.scv, e2.scv, hb, hv]
  exact ⟨_, S, K, hk, .sc hf, h2, .refl _ _⟩

theorem AOp.eqv {op : BinOp} {T T2 : TypeId} {x y : Operand} {b : Bool} (ho : o.op = .binOp op T x y T2)
    (hr : ∀ (K : KW) (av : Act) (w : World), TRo K o t av → plainR (av.eval y) = true ∧ (binOp .eql T (av.eval x) (av.eval y)).run P w = .ok (.bool b) w ∧ (binOp .neq T (av.eval x) (av.eval y)).run P w = .ok (.bool !b) w)
    (h : (op = .eql ∧ Kp (.sc (.bool b)) S) ∨ (op = .neq ∧ Kp (.sc (.bool !b)) S)) : AOp P o t S Kp := by
  refine ⟨by rw [ho]; exact fun _ h => (nomatch h), fun rd K av w h1 h2 _ => ?_⟩
  obtain ⟨hp, r1, r2⟩ := hr K av w h1
  rw [exec_bin ho _ hp]
  rcases h with ⟨rfl, hk⟩ | ⟨rfl, hk⟩
  · rw [r1]; exact ⟨_, S, K, hk, .sc rfl, h2, .refl _ _⟩
  · rw [r2]; exact ⟨_, S, K, hk, .sc rfl, h2, .refl _ _⟩

theorem eq_of_equal {T : TypeId} {u v : Value} {b : Bool} {w : World} (h1 : binOp .eql T u v = (do pure (.bool (← Op.equal T u v)))) (h2 : binOp .neq T u v = (do pure (.bool (!(← Op.equal T u v)))))
    (h : ∀ d, (Op.equalIn (d + 1) T u v).run P w = .ok b w) : (binOp .eql T u v).run P w = .ok (.bool b) w ∧ (binOp .neq T u v).run P w = .ok (.bool !b) w := by
  have h' : (Op.equal T u v).run P w = .ok b w := h 9999
  rw [h1, h2]
  constructor
  · rw [Sem.run_bind, h']; rfl
  · rw [Sem.run_bind, h']; rfl

theorem AOp.bool {op : BinOp} {T T2 : TypeId} {x y : Operand} {a b : Bool} (ho : o.op = .binOp op T x y T2) (hx : okConst x = true) (hy : okConst y = true)
    (ex : ev t x = .sc (.bool a)) (ey : ev t y = .sc (.bool b)) (hT : P.underlying T = some .bool)
    (h : (op = .eql ∧ Kp (.sc (.bool (a == b))) S) ∨ (op = .neq ∧ Kp (.sc (.bool !(a == b))) S)) : AOp P o t S Kp := by
  refine AOp.eqv ho (fun K av w h1 => ?_) h
  have e1 := h1.ev x hx (by rw [ho]; simp [Op.operands, Call.operands])
  have e2 := h1.ev y hy (by rw [ho]; simp [Op.operands, Call.operands])
  rw [ex] at e1; rw [ey] at e2
  rw [e1.scv, e2.scv]
  refine ⟨rfl, eq_of_equal rfl rfl (fun d => ?_)⟩
  simp only [Op.equalIn, Sem.run_bind, run_underlying hT, Result.andThen_ok, Sem.run_pure]

/-- What '==' and '!=' say of two aggregates. -/
def AggEq (P : Program) (op : BinOp) (T : TypeId) (xs ys : List AV) (r : Bool) : Prop :=
  ∀ (K : KW) (x y : Operand) (rx ry : Array Value) (w : World), VR K (.agg xs) (.agg rx) → VR K (.agg ys) (.agg ry) →
    Sem.run P (do eqGuard op T x y (.agg rx) (.agg ry); binOp op T (.agg rx) (.agg ry)) w = .ok (.bool r) w

theorem AOp.aggEq {op : BinOp} {T T2 : TypeId} {x y : Operand} {xs ys : List AV} {r : Bool} (ho : o.op = .binOp op T x y T2) (hx : okConst x = true) (hy : okConst y = true)
    (ex : ev t x = .agg xs) (ey : ev t y = .agg ys) (hT : AggEq P op T xs ys r) (h : Kp (.sc (.bool r)) S) : AOp P o t S Kp := by
  refine ⟨by rw [ho]; exact fun _ h => (nomatch h), fun rd K av w h1 h2 _ => ?_⟩
  have e1 := h1.ev x hx (by rw [ho]; simp [Op.operands, Call.operands])
  have e2 := h1.ev y hy (by rw [ho]; simp [Op.operands, Call.operands])
  rw [ex] at e1; rw [ey] at e2
  have hh := hT K x y
  generalize hrx : av.eval x = rx at e1
  generalize hry : av.eval y = ry at e2
  cases e1 with
  | @agg _ ra hl hg hv =>
    cases e2 with
    | @agg _ rb hl2 hg2 hv2 =>
      have := hh ra rb w (.agg hl hg hv) (.agg hl2 hg2 hv2)
      have : (execOp av.eval o).run P w = .ok (.value (.bool r)) w := by
        unfold execOp
        rw [ho]
        simp only [hrx, hry]
        rw [Sem.run_bind, this]; rfl
      rw [this]
      exact ⟨_, S, K, h, .sc rfl, h2, .refl _ _⟩

/-- A pointer against nil. -/
def isNilPtr : AV → Option Bool
  | .sc (.pointer none) => some true
  | .ptr _ _ => some false
  | _ => none

theorem AOp.ptrNil {op : BinOp} {T T2 e : TypeId} {x y : Operand} {b : Bool} (ho : o.op = .binOp op T x y T2) (hx : okConst x = true) (hy : okConst y = true)
    (ex : isNilPtr (ev t x) = some b) (ey : ev t y = .sc (.pointer none)) (hT : P.underlying T = some (.pointer e))
    (h : (op = .eql ∧ Kp (.sc (.bool b)) S) ∨ (op = .neq ∧ Kp (.sc (.bool !b)) S)) : AOp P o t S Kp := by
  refine AOp.eqv ho (fun K av w h1 => ?_) h
  have e1 := h1.ev x hx (by rw [ho]; simp [Op.operands, Call.operands])
  have e2 := h1.ev y hy (by rw [ho]; simp [Op.operands, Call.operands])
  rw [ey] at e2
  rw [e2.scv]
  refine ⟨rfl, ?_⟩
  revert e1 ex
  generalize ev t x = v
  generalize av.eval x = r
  intro ex e1
  unfold isNilPtr at ex
  split at ex
  · cases ex
    rw [e1.scv]
    refine eq_of_equal rfl rfl (fun d => ?_)
    simp only [Op.equalIn, Sem.run_bind, run_underlying hT, Result.andThen_ok, Sem.run_pure, Option.isNone_none]
  · cases ex
    cases e1 with
    | ptr hb =>
      refine eq_of_equal rfl rfl (fun d => ?_)
      simp only [Op.equalIn, Sem.run_bind, run_underlying hT, Result.andThen_ok, Sem.run_pure]
  · cases ex

/-- Is it nil? (of a slice) -/
def isNilSl : AV → Option Bool
  | .sc (.slice none _ _) => some true
  | .sl _ _ _ => some false
  | _ => none

theorem AOp.slNil {op : BinOp} {T T2 e : TypeId} {x y : Operand} {b : Bool} {n c : Nat} (ho : o.op = .binOp op T x y T2) (hx : okConst x = true) (hy : okConst y = true)
    (ex : isNilSl (ev t x) = some b) (ey : ev t y = .sc (.slice none n c)) (hT : P.underlying T = some (.slice e))
    (h : (op = .eql ∧ Kp (.sc (.bool b)) S) ∨ (op = .neq ∧ Kp (.sc (.bool !b)) S)) : AOp P o t S Kp := by
  refine AOp.eqv ho (fun K av w h1 => ?_) h
  have e1 := h1.ev x hx (by rw [ho]; simp [Op.operands, Call.operands])
  have e2 := h1.ev y hy (by rw [ho]; simp [Op.operands, Call.operands])
  rw [ey] at e2
  rw [e2.scv]
  refine ⟨rfl, ?_⟩
  revert e1 ex
  generalize ev t x = v
  generalize av.eval x = r
  intro ex e1
  unfold isNilSl at ex
  split at ex
  · cases ex
    rw [e1.scv]
    refine eq_of_equal rfl rfl (fun d => ?_)
    simp only [Op.equalIn, Sem.run_bind, run_underlying hT, Result.andThen_ok, Sem.run_pure, Option.isNone_none]
  · cases ex
    cases e1 with
    | sl =>
      refine eq_of_equal rfl rfl (fun d => ?_)
      simp only [Op.equalIn, Sem.run_bind, run_underlying hT, Result.andThen_ok, Sem.run_pure]
  · cases ex

theorem AOp.not {T : TypeId} {x : Operand} {b : Bool} (ho : o.op = .unOp .not T x) (hx : okConst x = true) (ex : ev t x = .sc (.bool b)) (h : Kp (.sc (.bool !b)) S) : AOp P o t S Kp := by
  refine AOp.val (by simp [ho]) h fun K a w h1 _ => ⟨.bool !b, ?_, .sc rfl⟩
  have e1 := h1.ev x hx (by rw [ho]; simp [Op.operands, Call.operands])
  rw [ex] at e1
  simp [execOp, ho, e1.scv, Op.unary]

theorem AOp.neg {T : TypeId} {x : Operand} {k : IntKind} {n : Int} (ho : o.op = .unOp .neg T x) (hx : okConst x = true) (ex : ev t x = .sc (.int k n)) (h : Kp (.sc (.int k (k.wrap (0 - n)))) S) : AOp P o t S Kp := by
  refine AOp.val (by simp [ho]) h fun K a w h1 _ => ⟨.int k (k.wrap (0 - n)), ?_, .sc rfl⟩
  have e1 := h1.ev x hx (by rw [ho]; simp [Op.operands, Call.operands])
  rw [ex] at e1
  simp [execOp, ho, e1.scv, Op.unary, Op.intArith]

/-! ### Parts of aggregates -/

theorem part_run {K : KW} {T : TypeId} {g : Bool} {n o' : Nat} (hl : lay P T = some (g, n)) {cs : List AV} {rs : Array Value} {v : AV} (hv : VR K (.agg cs) (.agg rs)) (hp : pickCells g n cs o' = some v) (w : World) :
    ∃ rv, (part T rs o').run P w = .ok rv w ∧ VR K v rv := by
  obtain ⟨r1, r2⟩ := lay_run hl w
  cases hv with
  | agg hlen hg hh =>
    unfold pickCells at hp
    cases g with
    | false =>
      simp only [Bool.false_eq_true, if_false] at hp
      have hlt : o' < rs.size := hlen ▸ (List.getElem?_eq_some_iff.1 hp).1
      exact ⟨rs[o'], by simp [part, r1, hlt], hh _ _ _ hp (Array.getElem?_eq_getElem hlt)⟩
    | true =>
      simp only [if_true] at hp
      split at hp
      · rename_i hle
        simp only [Option.some.injEq] at hp
        subst hp
        refine ⟨.agg (rs.extract o' (o' + n)), by simp [part, r1, r2], .agg (by simp; omega) ?_ ?_⟩
        · intro i c hc
          rw [List.getElem?_take] at hc
          split at hc
          · rw [List.getElem?_drop] at hc; exact hg _ _ hc
          · cases hc
        · intro i c r hc hr
          rw [List.getElem?_take] at hc
          split at hc
          · rw [List.getElem?_drop] at hc
            rw [Array.getElem?_extract] at hr
            split at hr
            · exact hh _ _ _ hc hr
            · cases hr
          · cases hc
      · cases hp

def afield (P : Program) (T : TypeId) (f : Nat) : Option (Bool × Nat × Nat) :=
  match P.underlying T with
  | some (.struct fs) => match fs[f]? with
    | some x => (lay P x.type).map fun q => (q.1, q.2, x.offset)
    | none => none
  | _ => none

theorem AOp.field {T : TypeId} {x : Operand} {f : Nat} {g : Bool} {n off : Nat} {cs : List AV} {v : AV} (ho : o.op = .field T x f) (hx : okConst x = true) (hf : afield P T f = some (g, n, off))
    (ex : ev t x = .agg cs) (hp : pickCells g n cs off = some v) (h : Kp v S) : AOp P o t S Kp := by
  refine AOp.val (by simp [ho]) h fun K a w h1 _ => ?_
  have e1 := h1.ev x hx (by rw [ho]; simp [Op.operands, Call.operands])
  rw [ex] at e1
  unfold afield at hf
  split at hf
  · rename_i fs hu
    split at hf
    · rename_i y hy
      simp only [Option.map_eq_some_iff] at hf
      obtain ⟨⟨g', n'⟩, hl, he⟩ := hf
      simp only [Prod.mk.injEq] at he
      obtain ⟨rfl, rfl, rfl⟩ := he
      generalize hrx : a.eval x = rx at e1
      cases e1 with
      | agg hlen hg hh =>
        obtain ⟨rv, k1, k2⟩ := part_run (P := P) hl (.agg hlen hg hh) hp w
        exact ⟨rv, by simp [execOp, ho, hrx, Instr.field, run_underlying hu, hy, asAgg, k1], k2⟩
    · cases hf
  · cases hf

def aarr (P : Program) (T : TypeId) : Option (Nat × Bool × Nat) :=
  match P.underlying T with
  | some (.array len e) => (lay P e).map fun q => (len, q)
  | _ => none

theorem AOp.index {T : TypeId} {x i : Operand} {g : Bool} {n len : Nat} {cs : List AV} {v : AV} {ki : IntKind} {q : Int} (ho : o.op = .index T x i) (hx : okConst x = true) (hi : okConst i = true)
    (hf : aarr P T = some (len, g, n)) (ex : ev t x = .agg cs) (ei : ev t i = .sc (.int ki q)) (h0 : 0 ≤ q) (h1' : q < len)
    (hp : pickCells g n cs (q.toNat * n) = some v) (h : Kp v S) : AOp P o t S Kp := by
  refine AOp.val (by simp [ho]) h fun K a w h1 _ => ?_
  have e1 := h1.ev x hx (by rw [ho]; simp [Op.operands, Call.operands])
  have e2 := h1.ev i hi (by rw [ho]; simp [Op.operands, Call.operands])
  rw [ex] at e1
  rw [ei] at e2
  unfold aarr at hf
  split at hf
  · rename_i len' e hu
    simp only [Option.map_eq_some_iff, Prod.mk.injEq] at hf
    obtain ⟨⟨g', n'⟩, hl, he1, he2⟩ := hf
    subst he1
    simp only [Prod.mk.injEq] at he2
    obtain ⟨rfl, rfl⟩ := he2
    generalize hrx : a.eval x = rx at e1
    cases e1 with
    | agg hlen hg hh =>
      obtain ⟨rv, k1, k2⟩ := part_run (P := P) hl (.agg hlen hg hh) hp w
      exact ⟨rv, by simp [execOp, ho, hrx, e2.scv, Instr.index, asIntOf, run_underlying hu, h0, h1', (lay_run hl w).2, k1], k2⟩
  · cases hf

end
end Go.Proofs.Ytfjeopaaplnoaaa.Av
