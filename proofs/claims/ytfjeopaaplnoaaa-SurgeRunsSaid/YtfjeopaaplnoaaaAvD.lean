/-
  THE ABSTRACT WALK: the operations, one by one (1): moves, tests, memory.
-/
import Derived.Test.YtfjeopaaplnoaaaAvC
namespace Go.Proofs.Ytfjeopaaplnoaaa.Av
open Go Go.RowKit
set_option linter.unusedSimpArgs false

def resOk (P : Program) (rd : Option Nat) (post : Value → World → Prop) : Result Next → Prop
  | .ok (.value v) w' => post v w'
  | .ok .skip w' => post undef w'
  | .ok (.enter f args) w' => Calls P f args w' fun e w'' => ∃ v, e = .returned v ∧ post v w''
  | .ok (.round l f tmps assign body) w' => RoundIn (FR rd) 0 P l f tmps assign body w' fun e w'' => ∃ v, e = .returned v ∧ post v w''
  | _ => False

def OpPost (Kp : AV → AS → Prop) (K : KW) (w : World) (rv : Value) (w' : World) : Prop :=
  ∃ v S' K', Kp v S' ∧ VR K' v rv ∧ RR K' S' w' ∧ Ext K w K' w'

/-- The operation's own operands. -/
structure TRo (K : KW) (o : Oper) (t : List AV) (a : Act) : Prop where
  ev : ∀ (x : Operand), okConst x = true → x ∈ o.op.operands → VR K (ev t x) (a.eval x)

theorem TR.o {K : KW} {t : List AV} {a : Act} (h : TR K t a.tmps) (o : Oper) : TRo K o t a := ⟨fun x hx _ => h.ev x hx⟩

/-- An operation: in every world that the abstract values stand for it comes to an end that meets 'Kp'. -/
def AOp (P : Program) (o : Oper) (t : List AV) (S : AS) (Kp : AV → AS → Prop) : Prop :=
  (∀ c, o.op ≠ .defer c) ∧ ∀ (rd : Option Nat) (K : KW) (a : Act) (w : World), TRo K o t a → RR K S w → RoundOk rd w →
    resOk P rd (OpPost Kp K w) ((execOp a.eval o).run P w)

section
variable {P : Program} {o : Oper} {t : List AV} {S : AS} {Kp : AV → AS → Prop}

/-- An operation that leaves the world as it is. -/
theorem AOp.val {v : AV} (hd : ∀ c, o.op ≠ .defer c) (hk : Kp v S)
    (h : ∀ (K : KW) (a : Act) (w : World), TRo K o t a → RR K S w → ∃ rv, (execOp a.eval o).run P w = .ok (.value rv) w ∧ VR K v rv) : AOp P o t S Kp := by
  refine ⟨hd, fun rd K a w h1 h2 _ => ?_⟩
  obtain ⟨rv, hr, hv⟩ := h K a w h1 h2
  rw [hr]
  exact ⟨v, S, K, hk, hv, h2, .refl _ _⟩

theorem AOp.move {x : Operand} (ho : o.op = .move x ∨ o.op = .assign x) (hx : okConst x = true) (h : Kp (ev t x) S) : AOp P o t S Kp := by
  refine AOp.val (by rcases ho with ho | ho <;> simp [ho]) h fun K a w h1 _ => ⟨a.eval x, ?_, h1.ev x hx (by rcases ho with ho | ho <;> rw [ho] <;> simp [Op.operands])⟩
  rcases ho with ho | ho <;> simp [execOp, ho]

theorem AOp.pick {c x y : Operand} {b : Bool} (ho : o.op = .pick c x y) (hc : ev t c = .sc (.bool b)) (hkc : okConst c = true) (hkx : okConst x = true) (hky : okConst y = true)
    (h : Kp (if b then ev t x else ev t y) S) : AOp P o t S Kp := by
  refine AOp.val (by simp [ho]) h fun K a w h1 _ => ⟨if b then a.eval x else a.eval y, ?_, ?_⟩
  · have hv := h1.ev c hkc (by rw [ho]; simp [Op.operands, Call.operands])
    rw [hc] at hv
    simp [execOp, ho, hv.bool, asBool]
  · cases b
    · exact h1.ev y hky (by rw [ho]; simp [Op.operands, Call.operands])
    · exact h1.ev x hkx (by rw [ho]; simp [Op.operands, Call.operands])

/-! ### Types -/

/-- Is it an aggregate, and how many cells has it? -/
def lay (P : Program) (T : TypeId) : Option (Bool × Nat) :=
  match P.underlying T, P.info? T with
  | some d, some i => some ((match d with | .struct _ | .array _ _ => true | _ => false), i.size)
  | _, _ => none

theorem lay_run {T : TypeId} {g : Bool} {n : Nat} (h : lay P T = some (g, n)) (w : World) : (isAgg T).run P w = .ok g w ∧ (sizeOf T).run P w = .ok n w := by
  unfold lay at h
  split at h
  · rename_i d i h1 h2
    simp only [Option.some.injEq, Prod.mk.injEq] at h
    obtain ⟨rfl, rfl⟩ := h
    constructor
    · simp only [isAgg, Sem.run_bind, run_underlying h1, Result.andThen_ok]
      split <;> simp_all
    · simp [sizeOf, typeInfo, h2]
  · cases h

/-! ### Loads -/

/-- What a variable of these cells holds. -/
def pickCells (g : Bool) (n : Nat) (cs : List AV) (o : Nat) : Option AV :=
  if g then (if o + n ≤ cs.length then some (.agg ((cs.drop o).take n)) else none) else cs[o]?

def aload (P : Program) (T : TypeId) (S : AS) : AV → Option AV
  | .ptr b o => match lay P T, S.box[b]? with
    | some (g, n), some cs => pickCells g n cs o
    | _, _ => none
  | .el cs o => match lay P T with
    | some (g, n) => pickCells g n cs o
    | none => none
  | _ => none

theorem flat_of {K : KW} {c : AV} {v : Value} (h : VR K c v) (hs : c.single = true) : v.oneCell' = true := by
  cases h with
  | sc h => revert h; cases ‹Value› <;> simp [vflat, Value.oneCell']
  | agg => simp [AV.single] at hs
  | tup => simp [AV.single] at hs
  | _ => rfl

theorem pick_run {K : KW} {T : TypeId} {g : Bool} {n : Nat} (hl : lay P T = some (g, n)) {cs : List AV} {B base o' : Nat} {w : World} {v : AV}
    (hcell : ∀ (j : Nat) (c : AV), cs[j]? = some c → ∃ rv, w.cell? ⟨B, base + j, none⟩ = some rv ∧ VR K c rv ∧ c.single = true)
    (hp : pickCells g n cs o' = some v) : ∃ rv, (loadVar T ⟨B, base + o', none⟩).run P w = .ok rv w ∧ VR K v rv := by
  obtain ⟨r1, r2⟩ := lay_run hl w
  unfold pickCells at hp
  cases g with
  | false =>
    simp only [Bool.false_eq_true, if_false] at hp
    obtain ⟨rv, h1, h2, _⟩ := hcell o' v hp
    exact ⟨rv, by simp [loadVar, r1, h1], h2⟩
  | true =>
    simp only [if_true] at hp
    split at hp
    · rename_i hle
      simp only [Option.some.injEq] at hp
      subst hp
      have hall : ∀ j, ∃ rv, j < n → w.cell? ⟨B, base + o' + j, none⟩ = some rv ∧ ∃ c, cs[o' + j]? = some c ∧ VR K c rv ∧ c.single = true := by
        intro j
        by_cases hj : j < n
        · have hlt : o' + j < cs.length := by omega
          obtain ⟨rv, h1, h2⟩ := hcell (o' + j) _ (List.getElem?_eq_getElem hlt)
          exact ⟨rv, fun _ => ⟨by rw [Nat.add_assoc]; exact h1, _, List.getElem?_eq_getElem hlt, h2⟩⟩
        · exact ⟨undef, fun h => absurd h hj⟩
      obtain ⟨f, hf⟩ := Classical.axiomOfChoice hall
      have hr := run_loadCells (P := P) (w := w) ⟨B, base + o', none⟩ n f (fun j hj => by rw [Addr.add_lit]; exact (hf j hj).1)
      refine ⟨.agg ((List.range n).map f).toArray, ?_, ?_⟩
      · simp [loadVar, r1, r2, hr]
      · refine .agg (by simp; omega) ?_ ?_
        · intro i c hc
          rw [List.getElem?_take] at hc
          split at hc
          · rename_i hi
            rw [List.getElem?_drop] at hc
            obtain ⟨_, c', hc', _, hs⟩ := hf i hi
            rw [hc] at hc'; cases hc'; exact hs
          · cases hc
        · intro i c r hc hr
          rw [List.getElem?_take] at hc
          split at hc
          · rename_i hi
            rw [List.getElem?_drop] at hc
            obtain ⟨_, c', hc', hv, _⟩ := hf i hi
            rw [hc] at hc'; cases hc'
            simp [hi] at hr
            subst hr; exact hv
          · cases hc
    · cases hp

theorem aload_run {K : KW} {T : TypeId} {w : World} (h2 : RR K S w) {p v : AV} {rp : Value} (hp : VR K p rp) (hl : aload P T S p = some v) :
    ∃ A rv, rp = .pointer (some A) ∧ (loadVar T A).run P w = .ok rv w ∧ VR K v rv := by
  unfold aload at hl
  cases hp with
  | @ptr b o r h =>
    simp only at hl
    split at hl
    · rename_i g n cs hlay hcs
      have := pick_run (P := P) (K := K) (base := 0) (B := r) (w := w) hlay (fun j c hc => by
        obtain ⟨rv, k1, k2, k3, _⟩ := h2.boxcell hcs h hc
        exact ⟨rv, by rw [Nat.zero_add]; exact k1, k2, k3⟩) hl
      obtain ⟨rv, k1, k2⟩ := this
      exact ⟨_, rv, rfl, by rw [Nat.zero_add] at k1; exact k1, k2⟩
    · cases hl
  | @el cs o B base rc e1 e2 e3 =>
    simp only at hl
    split at hl
    · rename_i g n hlay
      obtain ⟨rv, k1, k2⟩ := pick_run (P := P) (K := K) (base := base) (B := B) (w := w) hlay (fun j c hc => ⟨rc j, h2.cell (e1 j c hc), e3 j c hc, e2 j c hc⟩) hl
      exact ⟨_, rv, rfl, k1, k2⟩
    · cases hl
  | _ => cases hl

theorem AOp.load {T : TypeId} {x : Operand} {v : AV} (ho : o.op = .load T x) (hx : okConst x = true) (hl : aload P T S (ev t x) = some v) (h : Kp v S) : AOp P o t S Kp := by
  refine AOp.val (by simp [ho]) h fun K a w h1 h2 => ?_
  obtain ⟨A, rv, e, hr, hv⟩ := aload_run (P := P) (T := T) h2 (h1.ev x hx (by rw [ho]; simp [Op.operands, Call.operands])) hl
  refine ⟨rv, ?_, hv⟩
  simp [execOp, ho, e, Instr.loadAt, Instr.sureAddr, hr]

/-! ### New boxes -/

theorem boxR_one {K : KW} {v : AV} {r : Value} (h : VR K v r) (hs : v.single = true) (hv : v.cells = [v]) (hr : r.cells = #[r]) : BoxR K v.cells r.cells := by
  rw [hv, hr]
  refine ⟨rfl, fun i c hc => ?_, fun i c u hc hu => ?_⟩
  · cases i with
    | zero => simp at hc; subst hc; exact hs
    | succ i => simp at hc
  · cases i with
    | zero => simp at hc hu; subst hc; subst hu; exact h
    | succ i => simp at hc

theorem boxR_cells {K : KW} {v : AV} {r : Value} (h : VR K v r) (ht : ∀ vs, v ≠ .tup vs) : BoxR K v.cells r.cells := by
  have h0 := h
  cases h with
  | agg hl hg h => exact ⟨hl, hg, h⟩
  | tup => exact absurd rfl (ht _)
  | sc hv => refine boxR_one h0 rfl rfl ?_; revert hv; cases r <;> simp [vflat, Value.cells]
  | sl => exact boxR_one h0 rfl rfl rfl
  | el => exact boxR_one h0 rfl rfl rfl
  | ptr => exact boxR_one h0 rfl rfl rfl
  | clo => exact boxR_one h0 rfl rfl rfl
  | yld => exact boxR_one h0 rfl rfl rfl

def AV.isTup : AV → Bool
  | .tup _ => true
  | _ => false

theorem AV.not_tup {v : AV} (h : v.isTup = false) : ∀ vs, v ≠ .tup vs := by
  intro vs e; subst e; cases h

def AS.push (S : AS) (cs : List AV) : AS := { S with box := S.box ++ [cs] }

theorem AOp.box {T : TypeId} {x : Operand} (ho : o.op = .box T x) (hx : okConst x = true) (ht : (ev t x).isTup = false)
    (h : Kp (.ptr S.box.length 0) (S.push (ev t x).cells)) : AOp P o t S Kp := by
  refine ⟨by simp [ho], fun rd K a w h1 h2 _ => ?_⟩
  obtain ⟨k1, k2⟩ := h2.newbox (T := T) (boxR_cells (h1.ev x hx (by rw [ho]; simp [Op.operands, Call.operands])) (AV.not_tup ht))
  have hr : (execOp a.eval o).run P w = .ok (.value (.pointer (some ⟨w.heap.size, 0, none⟩))) (w.alloc (.cells (a.eval x).cells T)) := by
    simp [execOp, ho, Instr.box, newVar, newRow]
  rw [hr]
  exact ⟨_, _, _, h, .ptr (by simp only; rw [← h2.nbox, List.getElem?_append_right (Nat.le_refl _)]; simp), k1, k2⟩

/-- The cells of a type's zero value. -/
def azero (P : Program) (T : TypeId) : Option (List AV) :=
  match P.info? T with
  | some i => match i.zero with
    | some z => if z.cells.toList.all vflat then some (z.cells.toList.map .sc) else none
    | none => none
  | none => none

theorem boxR_zero {K : KW} {z : Value} (h : z.cells.toList.all vflat = true) : BoxR K (z.cells.toList.map .sc) z.cells := by
  refine ⟨by simp, fun i c hc => ?_, fun i c v hc hv => ?_⟩
  · simp only [List.getElem?_map, Option.map_eq_some_iff] at hc
    obtain ⟨v, _, rfl⟩ := hc; rfl
  · simp only [List.getElem?_map, Option.map_eq_some_iff, Array.getElem?_toList] at hc
    obtain ⟨u, hu, rfl⟩ := hc
    rw [hu] at hv; cases hv
    exact .sc (by simp only [List.all_eq_true] at h; exact h _ (Array.mem_toList_iff.2 (Array.mem_of_getElem? hu)))

theorem azero_run {T : TypeId} {cs : List AV} (h : azero P T = some cs) (w : World) : ∃ z : Value, (zeroValue T).run P w = .ok z w ∧ ∀ K, BoxR K cs z.cells := by
  unfold azero at h
  split at h
  · rename_i i hi
    split at h
    · rename_i z hz
      split at h
      · rename_i hall
        simp only [Option.some.injEq] at h
        subst h
        exact ⟨z, by simp [zeroValue, typeInfo, hi, hz], fun K => boxR_zero hall⟩
      · cases h
    · cases h
  · cases h

theorem AOp.alloc {T : TypeId} {cs : List AV} (ho : o.op = .alloc T) (hz : azero P T = some cs)
    (h : Kp (.ptr S.box.length 0) (S.push cs)) : AOp P o t S Kp := by
  refine ⟨by simp [ho], fun rd K a w h1 h2 _ => ?_⟩
  obtain ⟨z, hz1, hz2⟩ := azero_run hz w
  obtain ⟨k1, k2⟩ := h2.newbox (T := T) (hz2 K)
  have hr : (execOp a.eval o).run P w = .ok (.value (.pointer (some ⟨w.heap.size, 0, none⟩))) (w.alloc (.cells z.cells T)) := by
    simp [execOp, ho, Instr.alloc, hz1, newVar, newRow]
  rw [hr]
  exact ⟨_, _, _, h, .ptr (by simp only; rw [← h2.nbox, List.getElem?_append_right (Nat.le_refl _)]; simp), k1, k2⟩

end
end Go.Proofs.Ytfjeopaaplnoaaa.Av
