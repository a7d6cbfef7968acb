/-
  THE ABSTRACT WALK: what a piece of code does to abstract values; its rules for control; calls.
-/
import Derived.Test.YtfjeopaaplnoaaaAvB
namespace Go.Proofs.Ytfjeopaaplnoaaa.Av
open Go Go.RowKit
set_option linter.unusedSimpArgs false

abbrev FR (rd : Option Nat) : Fence := { fn := fun _ => True, depth := none, alive := false, round := rd }

theorem FR_room (rd : Option Nat) (n : Nat) : (FR rd).room n := fun _ h => by simp at h

def RoundOk (rd : Option Nat) (w : World) : Prop := ∀ l : Nat, rd = some l → ∃ lo : Loop, w.heap[l]? = some (.loop lo)

def markOf (m : Nat) : Deferred := { target := .collected m, args := #[] }

def Marks (B : Nat) (ds : List Deferred) (w : World) : Prop :=
  B ≤ w.heap.size ∧ ∃ ms : List Nat, ds = ms.map markOf ∧ ms.Nodup ∧ ∀ m ∈ ms, B ≤ m ∧ w.heap[m]? = some (.deferred (some []))

theorem RoundOk.ext {rd : Option Nat} {K K' : KW} {w w' : World} (h : RoundOk rd w) (he : Ext K w K' w') : RoundOk rd w' := fun l hl => by
  obtain ⟨lo, h1⟩ := h l hl
  obtain ⟨lo', h2, _⟩ := he.loops l lo h1
  exact ⟨lo', h2⟩

theorem Marks.ext {B : Nat} {ds : List Deferred} {K K' : KW} {w w' : World} (h : Marks B ds w) (he : Ext K w K' w') : Marks B ds w' := by
  obtain ⟨h0, ms, h1, h2, h3⟩ := h
  exact ⟨Nat.le_trans h0 he.size, ms, h1, h2, fun m hm => ⟨(h3 m hm).1, he.defs m _ (h3 m hm).2⟩⟩

def PostR (Q : Exit → List AV → AS → Prop) (B : Nat) (K : KW) (w : World) (e : Exit) (a' : Act) (w' : World) : Prop :=
  ∃ t' S' K', Q e t' S' ∧ TR K' t' a'.tmps ∧ RR K' S' w' ∧ Ext K w K' w' ∧ Marks B a'.defers w'

theorem PostR.trans {Q : Exit → List AV → AS → Prop} {B : Nat} {K K1 : KW} {w w1 : World} (h : Ext K w K1 w1) {e : Exit} {a' : Act} {w' : World} (k : PostR Q B K1 w1 e a' w') : PostR Q B K w e a' w' := by
  obtain ⟨t', S', K', h1, h2, h3, h4, h5⟩ := k
  exact ⟨t', S', K', h1, h2, h3, h.trans h4, h5⟩

theorem PostR.imp {Q Q' : Exit → List AV → AS → Prop} {B : Nat} {K : KW} {w : World} {e e' : Exit} {a' : Act} {w' : World} (k : PostR Q B K w e a' w') (h : ∀ t S, Q e t S → Q' e' t S) : PostR Q' B K w e' a' w' := by
  obtain ⟨t', S', K', h1, h2, h3, h4, h5⟩ := k
  exact ⟨t', S', K', h _ _ h1, h2, h3, h4, h5⟩

/-- From these abstract values the code comes, in every world that they stand for, to a way out that meets 'Q'. -/
def AW (P : Program) (c : Code) (Q : Exit → List AV → AS → Prop) (t : List AV) (S : AS) : Prop :=
  ∀ (rd : Option Nat) (B : Nat) (K : KW) (a : Act) (w : World), TR K t a.tmps → RR K S w → RoundOk rd w → Marks B a.defers w → c.wpIn (FR rd) 0 P (PostR Q B K w) a w

/-- The same from the head of a loop's round. -/
def AWl (P : Program) (c : Code) (Q : Exit → List AV → AS → Prop) (t : List AV) (S : AS) : Prop :=
  ∀ (rd : Option Nat) (B : Nat) (K : KW) (a : Act) (w : World), TR K t a.tmps → RR K S w → RoundOk rd w → Marks B a.defers w →
    ∀ (b : Frame) (k : List Item) (cs : List Frame), b.roundOf = rd →
      ∃ e a' w', PostR Q B K w e a' w' ∧ ArrivesIn (Machine.fenced P (FR rd)) P (lone (b.atR a (.code c :: .inLoop c :: k)) cs w) b k cs e a' w'

section
variable {P : Program} {Q : Exit → List AV → AS → Prop} {t : List AV} {S : AS}

theorem AW.mono {c : Code} {Q' : Exit → List AV → AS → Prop} (h : AW P c Q t S) (hq : ∀ e t S, Q e t S → Q' e t S) : AW P c Q' t S :=
  fun rd B K a w h1 h2 h3 h4 => wpIn_mono (h rd B K a w h1 h2 h3 h4) (fun _ _ _ h => h.imp (hq _))

theorem PostR.here {e : Exit} {B : Nat} {K : KW} {a : Act} {w : World} (h : Q e t S) (h1 : TR K t a.tmps) (h2 : RR K S w) (h4 : Marks B a.defers w) : PostR Q B K w e a w :=
  ⟨t, S, K, h, h1, h2, .refl _ _, h4⟩

theorem AW.skip (h : Q .normal t S) : AW P .skip Q t S := fun _ _ _ _ _ h1 h2 _ h4 => wpIn_skip (.here h h1 h2 h4)
theorem AW.label {l : Nat} (h : Q .normal t S) : AW P (.label l) Q t S := fun _ _ _ _ _ h1 h2 _ h4 => wpIn_label (.here h h1 h2 h4)
theorem AW.exit {id : Nat} (h : Q (.exit id) t S) : AW P (.exit id) Q t S := fun _ _ _ _ _ h1 h2 _ h4 => wpIn_exit (.here h h1 h2 h4)
theorem AW.ret (h : Q .ret t S) : AW P .ret Q t S := fun _ _ _ _ _ h1 h2 _ h4 => wpIn_ret (.here h h1 h2 h4)

/-- On the ordinary way out: on with 'R'; else as 'Q' says. -/
def thenQ (R : List AV → AS → Prop) (Q : Exit → List AV → AS → Prop) : Exit → List AV → AS → Prop
  | .normal, t, S => R t S
  | e, t, S => Q e t S

theorem AW.seq {x y : Code} (h : AW P x (thenQ (AW P y Q) Q) t S) : AW P (.seq x y) Q t S := by
  intro rd B K a w h1 h2 h3 h4
  refine wpIn_seq (wpIn_mono (h rd B K a w h1 h2 h3 h4) ?_)
  rintro e a' w' ⟨t', S', K', hq, k1, k2, k3, k4⟩
  cases e with
  | normal => exact wpIn_mono (hq rd B K' a' w' k1 k2 (h3.ext k3) k4) (fun _ _ _ hp => hp.trans k3)
  | exit id => exact ⟨t', S', K', hq, k1, k2, k3, k4⟩
  | goto l => exact ⟨t', S', K', hq, k1, k2, k3, k4⟩
  | ret => exact ⟨t', S', K', hq, k1, k2, k3, k4⟩
  | panic ch => exact ⟨t', S', K', hq, k1, k2, k3, k4⟩
  | outgrown => exact ⟨t', S', K', hq, k1, k2, k3, k4⟩

/-- An operand's abstract value. -/
def ev (t : List AV) : Operand → AV
  | .tmp i => t.getD i (.tup [])
  | .const v => match v with
    | .agg cs => .agg (cs.toList.map .sc)
    | .tuple vs => .tup (vs.toList.map .sc)
    | v => .sc v
  | .global g => .sc (.pointer (some ⟨g, 0, none⟩))
  | .func f => .clo (.func f) [] []

/-- Constants whose cells are plain. -/
def okConst : Operand → Bool
  | .const (.agg cs) => cs.all vflat
  | .const (.tuple vs) => vs.all vflat
  | _ => true

theorem VR.undef (K : KW) : VR K (.tup []) undef := .tup rfl (fun i c r h => by simp at h)

theorem TR.ev {K : KW} {a : Act} (h : TR K t a.tmps) (x : Operand) (hx : okConst x = true) : VR K (ev t x) (a.eval x) := by
  cases x with
  | tmp i =>
    simp only [Av.ev, Act.eval]
    by_cases hi : i < t.length
    · have hi' : i < a.tmps.size := h.1 ▸ hi
      rw [List.getD_eq_getElem?_getD, List.getElem?_eq_getElem hi, Array.getD_eq_getD_getElem?, Array.getElem?_eq_getElem hi']
      exact h.2 i _ _ (List.getElem?_eq_getElem hi) (Array.getElem?_eq_getElem hi')
    · have hi' : ¬ i < a.tmps.size := h.1 ▸ hi
      rw [List.getD_eq_getElem?_getD, List.getElem?_eq_none (Nat.le_of_not_lt hi), Array.getD_eq_getD_getElem?, Array.getElem?_eq_none (Nat.le_of_not_lt hi')]
      exact VR.undef K
  | const v =>
    cases v with
    | agg cs =>
      refine .agg (by simp) (fun i c hc => ?_) (fun i c r hc hr => ?_)
      · simp only [List.getElem?_map, Option.map_eq_some_iff] at hc
        obtain ⟨v, _, rfl⟩ := hc; rfl
      · simp only [List.getElem?_map, Option.map_eq_some_iff, Array.getElem?_toList] at hc
        obtain ⟨v, hv, rfl⟩ := hc
        rw [hv] at hr; cases hr
        exact .sc (by simp only [okConst, Array.all_eq_true'] at hx; exact hx _ (Array.mem_of_getElem? hv))
    | tuple cs =>
      refine .tup (by simp) (fun i c r hc hr => ?_)
      simp only [List.getElem?_map, Option.map_eq_some_iff, Array.getElem?_toList] at hc
      obtain ⟨v, hv, rfl⟩ := hc
      rw [hv] at hr; cases hr
      exact .sc (by simp only [okConst, Array.all_eq_true'] at hx; exact hx _ (Array.mem_of_getElem? hv))
    | _ => exact .sc rfl
  | global g => exact .sc rfl
  | func f => exact .clo rfl rfl (fun i c r h => by simp at h) (fun i c r h => by simp at h)

theorem VR.bool {K : KW} {b : Bool} {v : Value} (h : VR K (.sc (.bool b)) v) : v = .bool b := by cases h; rfl

theorem AW.cond {x : Operand} {c d : Code} {b : Bool} (hx : ev t x = .sc (.bool b)) (hk : okConst x = true) (ht : b = true → AW P c Q t S) (hf : b = false → AW P d Q t S) : AW P (.cond x c d) Q t S := by
  intro rd B K a w h1 h2 h3 h4
  have hv := h1.ev x hk
  rw [hx] at hv
  exact wpIn_cond_split hv.bool (fun e => ht e rd B K a w h1 h2 h3 h4) (fun e => hf e rd B K a w h1 h2 h3 h4)

def blockQ (id : Nat) (Q : Exit → List AV → AS → Prop) : Exit → List AV → AS → Prop
  | .exit id', t, S => if id' = id then Q .normal t S else Q (.exit id') t S
  | e, t, S => Q e t S

theorem AW.block {id : Nat} {c : Code} (h : AW P c (blockQ id Q) t S) : AW P (.block id c) Q t S := by
  intro rd B K a w h1 h2 h3 h4
  refine wpIn_block (wpIn_mono (h rd B K a w h1 h2 h3 h4) ?_)
  rintro e a' w' ⟨t', S', K', hq, k1, k2, k3, k4⟩
  cases e with
  | exit id' =>
    simp only [Exit.inBlock, blockQ] at hq ⊢
    split
    · rename_i e; rw [if_pos e] at hq; exact ⟨t', S', K', hq, k1, k2, k3, k4⟩
    · rename_i e; rw [if_neg e] at hq; exact ⟨t', S', K', hq, k1, k2, k3, k4⟩
  | normal => exact ⟨t', S', K', hq, k1, k2, k3, k4⟩
  | goto l => exact ⟨t', S', K', hq, k1, k2, k3, k4⟩
  | ret => exact ⟨t', S', K', hq, k1, k2, k3, k4⟩
  | panic ch => exact ⟨t', S', K', hq, k1, k2, k3, k4⟩
  | outgrown => exact ⟨t', S', K', hq, k1, k2, k3, k4⟩

theorem AW.loop {c : Code} (h : AWl P c Q t S) : AW P (.loop c) Q t S := by
  intro rd B K a w h1 h2 h3 h4 b k cs hro hb hr
  obtain ⟨e, a', w', hq, harr⟩ := h rd B K a w h1 h2 h3 h4 b k cs hro
  exact ⟨e, a', w', hq, .of_steps (.one (fenced_calm hb hr rfl) stepR_loop) harr⟩

/-- One round; then on from the head, or out. -/
theorem AWl.round {c : Code} (h : AW P c (thenQ (AWl P c Q) Q) t S) : AWl P c Q t S := by
  intro rd B K a w h1 h2 h3 h4 b k cs hro
  obtain ⟨e, a', w', ⟨t', S', K', hq, k1, k2, k3, k4⟩, harr⟩ := h rd B K a w h1 h2 h3 h4 b (.inLoop c :: k) cs hro trivial (FR_room rd _)
  cases e with
  | normal =>
    obtain ⟨e2, a2, w2, hq2, harr2⟩ := hq rd B K' a' w' k1 k2 (h3.ext k3) k4 b k cs hro
    exact ⟨e2, a2, w2, hq2.trans k3, .of_steps (StepsIn.trans harr (.one (fenced_calm (n := 0) (F := FR rd) trivial (FR_room rd _) rfl) stepR_inLoop)) harr2⟩
  | exit id => exact ⟨_, a', w', ⟨t', S', K', hq, k1, k2, k3, k4⟩, .pass (x := .inLoop c) rfl (fun _ _ => .inl (by simp)) harr⟩
  | goto l => exact ⟨_, a', w', ⟨t', S', K', hq, k1, k2, k3, k4⟩, .pass (x := .inLoop c) rfl (fun _ _ => .inl (by simp)) harr⟩
  | ret => exact ⟨_, a', w', ⟨t', S', K', hq, k1, k2, k3, k4⟩, .pass (x := .inLoop c) rfl (fun _ _ => .inl (by simp)) harr⟩
  | panic ch => exact ⟨_, a', w', ⟨t', S', K', hq, k1, k2, k3, k4⟩, .pass (x := .inLoop c) rfl (fun _ _ => .inl (by simp)) harr⟩
  | outgrown => exact ⟨_, a', w', ⟨t', S', K', hq, k1, k2, k3, k4⟩, .pass (x := .inLoop c) rfl (fun _ _ => .inl (by simp)) harr⟩

end

/-- A function with a Go body. -/
def callable (P : Program) (f : FuncId) : Bool :=
  match P.funcs[f]? with
  | some fn => fn.body.isSome && !(fn.name == "runtime.NumGoroutine")
  | none => false

/-- A call: on these abstract arguments the function returns, and result and state meet 'Q'. -/
def ACall (P : Program) (f : FuncId) (args : List AV) (S : AS) (Q : AV → AS → Prop) : Prop :=
  callable P f = true ∧ ∀ (K : KW) (w : World) (rs : Array Value), TR K args rs → RR K S w →
    Calls P f rs w fun e w' => ∃ v rv S' K', e = .returned rv ∧ Q v S' ∧ VR K' v rv ∧ RR K' S' w' ∧ Ext K w K' w'

theorem ACall.mono {P : Program} {f : FuncId} {args : List AV} {S : AS} {Q Q' : AV → AS → Prop} (h : ACall P f args S Q) (hq : ∀ v S, Q v S → Q' v S) : ACall P f args S Q' :=
  ⟨h.1, fun K w rs h1 h2 => (h.2 K w rs h1 h2).mono fun _ _ ⟨v, rv, S', K', e1, e2, e3⟩ => ⟨v, rv, S', K', e1, hq _ _ e2, e3⟩⟩

/-- A function that leaves the state as it is. -/
def DCall (P : Program) (f : FuncId) (args : List AV) (v : AV) : Prop := ∀ S, ACall P f args S fun v' S' => v' = v ∧ S' = S

theorem DCall.use {P : Program} {f : FuncId} {args : List AV} {v : AV} (h : DCall P f args v) {S : AS} {Q : AV → AS → Prop} (hq : Q v S) : ACall P f args S Q :=
  (h S).mono (by rintro _ _ ⟨rfl, rfl⟩; exact hq)

end Go.Proofs.Ytfjeopaaplnoaaa.Av
