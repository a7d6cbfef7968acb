/-
  THE ABSTRACT WALK: regions, in the order of the text and in any order.
-/
import Derived.Test.YtfjeopaaplnoaaaAvJ
namespace Go.Proofs.Ytfjeopaaplnoaaa.Av
open Go Go.RowKit
set_option linter.unusedSimpArgs false

def avBool : AV → Option Bool
  | .sc (.bool b) => some b
  | _ => none

def vBool : Value → Option Bool
  | .bool b => some b
  | _ => none

def ayield (ops : Array Oper) (t : List AV) (j : Nat) : Option Bool := (((ops[j]?).bind (·.dst)).bind (t[·]?)).bind avBool

def awanted (ops : Array Oper) (t : List AV) (o : Oper) : Bool :=
  match o.guard with
  | none => true
  | some (j, want) => ayield ops t j == some want

theorem VR.boolOf {K : KW} {v : AV} {r : Value} (h : VR K v r) : vBool r = avBool v := by
  cases h with
  | sc h => cases r <;> rfl
  | _ => rfl

theorem yielded_bind (ops : Array Oper) (tmps : Array Value) (j : Nat) : yielded ops tmps j = (((ops[j]?).bind (·.dst)).bind (tmps[·]?)).bind vBool := by
  unfold yielded
  generalize ((ops[j]?).bind (·.dst)).bind (tmps[·]?) = q
  cases q with
  | none => rfl
  | some v => cases v <;> rfl

theorem yield_eq {K : KW} {t : List AV} {tmps : Array Value} (h : TR K t tmps) (ops : Array Oper) (j : Nat) : yielded ops tmps j = ayield ops t j := by
  rw [yielded_bind]
  unfold ayield
  cases hd : (ops[j]?).bind (·.dst) with
  | none => rfl
  | some d =>
    simp only [Option.bind_some]
    by_cases hi : d < t.length
    · have hi' : d < tmps.size := h.1 ▸ hi
      rw [List.getElem?_eq_getElem hi, Array.getElem?_eq_getElem hi']
      exact (h.2 d _ _ (List.getElem?_eq_getElem hi) (Array.getElem?_eq_getElem hi')).boolOf
    · rw [List.getElem?_eq_none (Nat.le_of_not_lt hi), Array.getElem?_eq_none (h.1 ▸ Nat.le_of_not_lt hi)]
      rfl

theorem wanted_eq {K : KW} {t : List AV} {tmps : Array Value} (h : TR K t tmps) (ops : Array Oper) (o : Oper) : Region.wanted o (yielded ops tmps) = awanted ops t o := by
  unfold Region.wanted awanted
  cases o.guard with
  | none => rfl
  | some q => simp only [yield_eq h]

def putA (t : List AV) (dst : Option Tmp) (v : AV) : List AV :=
  match dst with
  | some d => t.set d v
  | none => t

theorem TR.put {K : KW} {t : List AV} {a : Act} (h : TR K t a.tmps) (dst : Option Tmp) {v : AV} {r : Value} (hv : VR K v r) : TR K (putA t dst v) (a.put dst r).tmps := by
  cases dst with
  | none => exact h
  | some d =>
    refine ⟨by simp [putA, Act.put, h.1], fun i u s hu hs => ?_⟩
    simp only [putA, Act.put] at hu hs
    by_cases hi : i = d
    · subst hi
      by_cases hl : i < t.length
      · rw [List.getElem?_set_self hl] at hu
        rw [Array.getElem?_setIfInBounds_self_of_lt (h.1 ▸ hl)] at hs
        cases hu; cases hs; exact hv
      · rw [List.getElem?_eq_none (by simp; omega)] at hu; cases hu
    · rw [List.getElem?_set_ne (Ne.symm hi)] at hu
      rw [Array.getElem?_setIfInBounds_ne (Ne.symm hi)] at hs
      exact h.2 i u s hu hs

theorem put_defers' (a : Act) (dst : Option Tmp) (v : Value) : (a.put dst v).defers = a.defers := by cases dst <;> rfl

/-- Operations one after another. -/
def AWo (P : Program) (ops : Array Oper) (Q : List AV → AS → Prop) : List Oper → List AV → AS → Prop
  | [], t, S => Q t S
  | o :: l, t, S => if awanted ops t o then AOp P o t S (fun v S' => AWo P ops Q l (putA t o.dst v) S') else AWo P ops Q l (putA t o.dst (.tup [])) S

section
variable {P : Program} {ops : Array Oper}

theorem callsIn_FR {rd : Option Nat} {f : FuncId} {args : Array Value} {w : World} {R : Ending → World → Prop} (h : Calls P f args w R) : CallsIn (FR rd) 0 P f args w R :=
  (callsIn_wide (n := 0)).2 h

/-- What one operation that has come up leaves. -/
theorem wpIn_of_res {rd : Option Nat} {o : Oper} {a : Act} {w : World} {next : Act → World → Prop} {Q : Exit → Act → World → Prop} (hd : ∀ c, o.op ≠ .defer c)
    (h : resOk P rd (fun v w' => next (a.put o.dst v) w') ((execOp a.eval o).run P w)) : o.wpIn (FR rd) 0 P a w next Q := by
  refine ⟨fun _ _ => trivial, ?_⟩
  rw [Oper.semAt_eq _ _ _ hd]
  generalize (execOp a.eval o).run P w = r at h
  unfold resOk at h
  split at h
  · exact h
  · exact h
  · refine ⟨fun hh => (by simp at hh), callsIn_FR (h.mono ?_)⟩
    rintro e w'' ⟨v, rfl, hn⟩
    exact hn
  · refine ⟨fun hh => (by simp at hh), h.mono ?_⟩
    rintro e w'' ⟨v, rfl, hn⟩
    exact hn
  · exact h.elim

theorem AWo_run {Q : Exit → List AV → AS → Prop} {rd : Option Nat} {B : Nat} {K0 : KW} {w0 : World} : ∀ (l : List Oper) (k : Nat) (t : List AV) (S : AS) (K : KW) (a : Act) (w : World), (∀ j : Nat, l[j]? = ops[k + j]?) →
    AWo P ops (Q .normal) l t S → TR K t a.tmps → RR K S w → RoundOk rd w → Marks B a.defers w → Ext K0 w0 K w →
    wpOpsIn (FR rd) 0 P ops (PostR Q B K0 w0) (List.range' k l.length) a w
  | [], k, t, S, K, a, w, _, h, h1, h2, _, h4, h5 => ⟨t, S, K, h, h1, h2, h5, h4⟩
  | o :: l, k, t, S, K, a, w, hl, h, h1, h2, h3, h4, h5 => by
    have hk : ops[k]? = some o := by have := hl 0; simpa using this.symm
    have hl' : ∀ j : Nat, l[j]? = ops[k + 1 + j]? := fun j => by
      have := hl (j + 1)
      simp only [List.getElem?_cons_succ] at this
      rw [this]; congr 1; omega
    simp only [List.length_cons, List.range'_succ, wpOpsIn, hk, wanted_eq h1]
    unfold AWo at h
    by_cases hw : awanted ops t o = true
    · rw [if_pos hw] at h ⊢
      refine wpIn_of_res h.1 ?_
      have hr := h.2 rd K a w (h1.o o) h2 h3
      generalize (execOp a.eval o).run P w = r at hr
      unfold resOk at hr ⊢
      split at hr
      · obtain ⟨v, S', K', q1, q2, q3, q4⟩ := hr
        exact AWo_run l (k + 1) _ S' K' _ _ hl' q1 ((h1.mono q4.le).put o.dst q2) q3 (h3.ext q4) (by rw [put_defers']; exact h4.ext q4) (h5.trans q4)
      · obtain ⟨v, S', K', q1, q2, q3, q4⟩ := hr
        exact AWo_run l (k + 1) _ S' K' _ _ hl' q1 ((h1.mono q4.le).put o.dst q2) q3 (h3.ext q4) (by rw [put_defers']; exact h4.ext q4) (h5.trans q4)
      · refine hr.mono ?_
        rintro e w'' ⟨rv, rfl, v, S', K', q1, q2, q3, q4⟩
        exact ⟨rv, rfl, AWo_run l (k + 1) _ S' K' _ _ hl' q1 ((h1.mono q4.le).put o.dst q2) q3 (h3.ext q4) (by rw [put_defers']; exact h4.ext q4) (h5.trans q4)⟩
      · refine hr.mono ?_
        rintro e w'' ⟨rv, rfl, v, S', K', q1, q2, q3, q4⟩
        exact ⟨rv, rfl, AWo_run l (k + 1) _ S' K' _ _ hl' q1 ((h1.mono q4.le).put o.dst q2) q3 (h3.ext q4) (by rw [put_defers']; exact h4.ext q4) (h5.trans q4)⟩
      · exact hr.elim
    · rw [if_neg hw] at h ⊢
      exact ⟨fun _ _ => trivial, AWo_run l (k + 1) _ S K _ _ hl' h (h1.put o.dst (VR.undef K)) h2 h3 (by rw [put_defers']; exact h4) h5⟩

theorem AW.region {Q : Exit → List AV → AS → Prop} {id : Nat} {t : List AV} {S : AS} (h : AWo P ops (Q .normal) ops.toList t S) : AW P (.region id ops false) Q t S := by
  intro rd B K a w h1 h2 h3 h4
  refine wpIn_region ?_
  have := AWo_run (rd := rd) (B := B) (K0 := K) (w0 := w) ops.toList 0 t S K a w (fun j => by simp) h h1 h2 h3 h4 (.refl _ _)
  rw [Array.length_toList, ← List.range_eq_range'] at this
  exact this

end
end Go.Proofs.Ytfjeopaaplnoaaa.Av
