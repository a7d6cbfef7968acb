/-
  THE ABSTRACT WALK: a region that draws its order: one walk in the order of the text serves every order.
-/
import Derived.Test.YtfjeopaaplnoaaaAvK
namespace Go.Proofs.Ytfjeopaaplnoaaa.Av
open Go Go.RowKit
set_option linter.unusedSimpArgs false

/-! ### What must have come up before -/

def odeps (o : Oper) : List Nat := o.after.toList.filterMap fun e => if Region.binds .any e then some e.on else none

def orAll (acc : List Nat) : List Nat → Nat
  | [] => 0
  | d :: ds => 2 ^ d ||| acc.getD d 0 ||| orAll acc ds

theorem orAll_bit {acc : List Nat} {j : Nat} : ∀ (ds : List Nat), (orAll acc ds).testBit j = true → ∃ d ∈ ds, j = d ∨ (acc.getD d 0).testBit j = true
  | [], h => by simp [orAll] at h
  | d :: ds, h => by
    simp only [orAll, Nat.testBit_or, Bool.or_eq_true] at h
    rcases h with (h | h) | h
    · exact ⟨d, List.mem_cons_self .., .inl (by rw [Nat.testBit_two_pow] at h; simpa using (of_decide_eq_true h).symm)⟩
    · exact ⟨d, List.mem_cons_self .., .inr h⟩
    · obtain ⟨d', h1, h2⟩ := orAll_bit ds h
      exact ⟨d', List.mem_cons_of_mem _ h1, h2⟩

def masks : List (List Nat) → List Nat → List Nat
  | [], acc => acc
  | ds :: rest, acc => masks rest (acc ++ [orAll acc ds])

/-- What a mask says: whatever is closed and holds what 'i' waits for holds all of the mask. -/
def MaskOk (deps : List (List Nat)) (acc : List Nat) : Prop :=
  ∀ (i : Nat) (m : Nat), acc[i]? = some m → ∀ E : Nat → Prop, (∀ k, E k → ∀ ds, deps[k]? = some ds → ∀ d ∈ ds, E d) → (∀ ds, deps[i]? = some ds → ∀ d ∈ ds, E d) → ∀ j, m.testBit j = true → E j

theorem masks_ok (deps : List (List Nat)) : ∀ (rest : List (List Nat)) (acc : List Nat), (∀ j, rest[j]? = deps[acc.length + j]?) → MaskOk deps acc → MaskOk deps (masks rest acc)
  | [], acc, _, h => h
  | ds :: rest, acc, hr, h => by
    refine masks_ok deps rest _ (fun j => ?_) ?_
    · have := hr (j + 1)
      simp only [List.getElem?_cons_succ] at this
      rw [this, List.length_append]; congr 1; simp; omega
    · intro i m hm E hE hi j hj
      by_cases hlt : i < acc.length
      · rw [List.getElem?_append_left hlt] at hm
        exact h i m hm E hE hi j hj
      · rw [List.getElem?_append_right (by omega)] at hm
        have h0 : i - acc.length = 0 := by
          have := (List.getElem?_eq_some_iff.1 hm).1
          simp at this; omega
        rw [h0] at hm
        simp only [List.getElem?_cons_zero, Option.some.injEq] at hm
        subst hm
        have hieq : i = acc.length := by omega
        subst hieq
        have hds : deps[acc.length]? = some ds := by have := hr 0; simpa using this.symm
        obtain ⟨d, hd, hq⟩ := orAll_bit ds hj
        have hEd : E d := hi ds hds d hd
        rcases hq with rfl | hq
        · exact hEd
        · by_cases hda : d < acc.length
          · have : acc[d]? = some (acc.getD d 0) := by rw [List.getD_eq_getElem?_getD, List.getElem?_eq_getElem hda]; rfl
            exact h d _ this E hE (fun ds' hds' d' hd' => hE d hEd ds' hds' d' hd') j hq
          · rw [List.getD_eq_getElem?_getD, List.getElem?_eq_none (by omega)] at hq
            simp at hq

def depsOf (ops : Array Oper) : List (List Nat) := ops.toList.map odeps
def masksOf (ops : Array Oper) : List Nat := masks (depsOf ops) []

theorem masksOf_ok (ops : Array Oper) : MaskOk (depsOf ops) (masksOf ops) := masks_ok _ _ _ (fun j => by simp) (fun i m h => by simp at h)

/-- A variable is laid: nothing is looked at. -/
def isA (o : Oper) : Bool :=
  match o.op with
  | .alloc _ => o.guard.isNone && o.dst.isSome
  | _ => false

/-- An operation that may turn the state: 'ix' says which. -/
def isX (ix : Oper → Bool) (o : Oper) : Bool := ix o && !isA o

def dstOf (ops : Array Oper) (i : Nat) : Option Tmp := (ops[i]?).bind (·.dst)

/-- 'i' comes up behind 'j'. -/
def Needs (ops : Array Oper) (o : Oper) (j : Nat) : Prop := ∀ E : Nat → Prop, (∀ (k : Nat), E k → ∀ o', ops[k]? = some o' → ∀ d ∈ odeps o', E d) → (∀ d ∈ odeps o, E d) → E j

/-- In this region one walk in the order of the text serves every order: what turns the state comes up in the order of the text. -/
def drawOk (ops : Array Oper) (ix : Oper → Bool) : Bool :=
  let ds := depsOf ops
  let ms := masksOf ops
  let dst := ops.toList.map (·.dst)
  let xs := ops.toList.map (isX ix)
  let al := ops.toList.map isA
  (List.range ops.size).all fun i =>
    ((ds.getD i []).all fun d => decide (d < i)) &&
    ((List.range ops.size).all fun j => j == i || dst.getD i none == none || dst.getD i none != dst.getD j none) &&
    ((ops.toList[i]?).map fun o => (o.looksAt ops).all fun s => (List.range ops.size).all fun j => (dst.getD j none != some s) ||
      (if j < i then (ms.getD i 0).testBit j && (!al.getD j false || xs.getD i false || (List.range i).any fun x => decide (j < x) && xs.getD x false) else if i < j then (ms.getD j 0).testBit i else true)).getD false &&
    (al.getD i false || (List.range i).all fun j => !(xs.getD j false || (xs.getD i false && al.getD j false)) || (ms.getD i 0).testBit j)

structure DrawOk (ops : Array Oper) (ix : Oper → Bool) : Prop where
  dep : ∀ (i : Nat) o, ops[i]? = some o → ∀ d ∈ odeps o, d < i
  uniq : ∀ (i j : Nat) d, dstOf ops i = some d → dstOf ops j = some d → i = j
  seen : ∀ (i : Nat) o, ops[i]? = some o → ∀ s ∈ o.looksAt ops, ∀ j, dstOf ops j = some s → j < i → Needs ops o j
  unseen : ∀ (i : Nat) o, ops[i]? = some o → ∀ s ∈ o.looksAt ops, ∀ (j : Nat) o', ops[j]? = some o' → dstOf ops j = some s → i < j → Needs ops o' i
  fresh : ∀ (i : Nat) o, ops[i]? = some o → isX ix o = false → ∀ s ∈ o.looksAt ops, ∀ (j : Nat) o', ops[j]? = some o' → dstOf ops j = some s → j < i → isA o' = true → ∃ (x : Nat) (ox : Oper), ops[x]? = some ox ∧ isX ix ox = true ∧ j < x ∧ x < i
  chain : ∀ (i : Nat) o, ops[i]? = some o → isX ix o = true → ∀ (j : Nat) o', ops[j]? = some o' → j < i → isX ix o' = true ∨ isA o' = true → Needs ops o j
  late : ∀ (i : Nat) o, ops[i]? = some o → isA o = false → ∀ (j : Nat) o', ops[j]? = some o' → j < i → isX ix o' = true → Needs ops o j

theorem dst_getD (ops : Array Oper) (i : Nat) : (ops.toList.map (·.dst)).getD i none = dstOf ops i := by
  unfold dstOf
  rw [List.getD_eq_getElem?_getD, List.getElem?_map, Array.getElem?_toList]
  cases ops[i]? <;> rfl

theorem mask_use {ops : Array Oper} {i j : Nat} {o : Oper} (ho : ops[i]? = some o) (h : ((masksOf ops).getD i 0).testBit j = true) (E : Nat → Prop) (hE : ∀ (k : Nat), E k → ∀ o', ops[k]? = some o' → ∀ d ∈ odeps o', E d) (hd : ∀ d ∈ odeps o, E d) : E j := by
  by_cases hm : i < (masksOf ops).length
  · refine masksOf_ok ops i _ (List.getElem?_eq_getElem hm) E ?_ ?_ j (by rw [List.getD_eq_getElem?_getD, List.getElem?_eq_getElem hm] at h; exact h)
    · intro k hk ds hds d hdd
      simp only [depsOf, List.getElem?_map, Option.map_eq_some_iff, Array.getElem?_toList] at hds
      obtain ⟨o', ho', rfl⟩ := hds
      exact hE k hk o' ho' d hdd
    · intro ds hds d hdd
      simp only [depsOf, List.getElem?_map, Option.map_eq_some_iff, Array.getElem?_toList] at hds
      obtain ⟨o', ho', rfl⟩ := hds
      rw [ho] at ho'; cases ho'
      exact hd d hdd
  · rw [List.getD_eq_getElem?_getD, List.getElem?_eq_none (by omega)] at h
    simp at h

theorem map_getD {β : Type} (ops : Array Oper) (f : Oper → β) (i : Nat) (d : β) {o : Oper} (ho : ops[i]? = some o) : (ops.toList.map f).getD i d = f o := by
  rw [List.getD_eq_getElem?_getD, List.getElem?_map, Array.getElem?_toList, ho]; rfl

theorem isA_not_X {ix : Oper → Bool} {o : Oper} (h : isA o = true) : isX ix o = false := by simp [isX, h]

theorem dst_lt {ops : Array Oper} {i d : Nat} (h : dstOf ops i = some d) : ∃ o, ops[i]? = some o ∧ i < ops.size := by
  unfold dstOf at h
  cases ho : ops[i]? with
  | none => rw [ho] at h; cases h
  | some o => exact ⟨o, rfl, (Array.getElem?_eq_some_iff.1 ho).1⟩

theorem drawOk_spec {ops : Array Oper} {ix : Oper → Bool} (h : drawOk ops ix = true) : DrawOk ops ix := by
  unfold drawOk at h
  simp only [Bool.and_eq_true, decide_eq_true_eq, List.all_eq_true, List.mem_range, dst_getD] at h
  have key : ∀ (i : Nat) o, ops[i]? = some o → ∀ s ∈ o.looksAt ops, ∀ j, j < ops.size → dstOf ops j = some s →
      (if j < i then ((masksOf ops).getD i 0).testBit j && (!(ops.toList.map isA).getD j false || (ops.toList.map (isX ix)).getD i false || (List.range i).any fun x => decide (j < x) && (ops.toList.map (isX ix)).getD x false) else if i < j then ((masksOf ops).getD j 0).testBit i else true) = true := by
    intro i o ho s hs j hjl hj
    have hil : i < ops.size := (Array.getElem?_eq_some_iff.1 ho).1
    have h3 := (h i hil).1.2
    simp only [Array.getElem?_toList, ho, Option.map_some, Option.getD_some, List.all_eq_true, List.mem_range] at h3
    have := h3 s hs j hjl
    rw [hj] at this
    simpa using this
  refine ⟨?_, ?_, ?_, ?_, ?_, ?_, ?_⟩
  · intro i o ho d hd
    have hi : i < ops.size := (Array.getElem?_eq_some_iff.1 ho).1
    have := (h i hi).1.1.1 d (by
      simp only [depsOf, List.getD_eq_getElem?_getD, List.getElem?_map, Array.getElem?_toList, ho]; exact hd)
    simpa using this
  · intro i j d hi hj
    obtain ⟨_, _, hil⟩ := dst_lt hi
    obtain ⟨_, _, hjl⟩ := dst_lt hj
    have := (h i hil).1.1.2 j hjl
    rw [hi, hj] at this
    simp at this
    exact this.symm
  · intro i o ho s hs j hj hji
    obtain ⟨_, _, hjl⟩ := dst_lt hj
    have := key i o ho s hs j hjl hj
    rw [if_pos hji] at this
    simp only [Bool.and_eq_true] at this
    exact fun E hE hd => mask_use ho this.1 E hE hd
  · intro i o ho s hs j o' ho' hj hij
    obtain ⟨_, _, hjl⟩ := dst_lt hj
    have := key i o ho s hs j hjl hj
    rw [if_neg (by omega), if_pos hij] at this
    exact fun E hE hd => mask_use ho' this E hE hd
  · intro i o ho hx s hs j o' ho' hj hji ha
    obtain ⟨_, _, hjl⟩ := dst_lt hj
    have := key i o ho s hs j hjl hj
    rw [if_pos hji] at this
    simp only [Bool.and_eq_true, map_getD ops isA j false ho', ha, map_getD ops (isX ix) i false ho, hx, Bool.not_true, Bool.false_or, List.any_eq_true, List.mem_range, decide_eq_true_eq] at this
    obtain ⟨_, x, hxi, hjx, hxx⟩ := this
    have hil : i < ops.size := (Array.getElem?_eq_some_iff.1 ho).1
    have hxo : ops[x]? = some ops[x] := Array.getElem?_eq_getElem (by omega)
    rw [map_getD ops (isX ix) x false hxo] at hxx
    exact ⟨x, _, hxo, hxx, hjx, hxi⟩
  · intro i o ho hx j o' ho' hji hor
    have hil : i < ops.size := (Array.getElem?_eq_some_iff.1 ho).1
    have := (h i hil).2
    have hna : isA o = false := by
      cases hh : isA o with
      | false => rfl
      | true => rw [isA_not_X hh] at hx; cases hx
    rw [map_getD ops isA i false ho, hna] at this
    simp only [Bool.false_or, List.all_eq_true, List.mem_range] at this
    have := this j hji
    rw [map_getD ops (isX ix) j false ho', map_getD ops isA j false ho', map_getD ops (isX ix) i false ho, hx] at this
    have hb : ((masksOf ops).getD i 0).testBit j = true := by
      rcases hor with hor | hor <;> simpa [hor] using this
    exact fun E hE hd => mask_use ho hb E hE hd
  · intro i o ho hna j o' ho' hji hor
    have hil : i < ops.size := (Array.getElem?_eq_some_iff.1 ho).1
    have := (h i hil).2
    rw [map_getD ops isA i false ho, hna] at this
    simp only [Bool.false_or, List.all_eq_true, List.mem_range] at this
    have := this j hji
    rw [map_getD ops (isX ix) j false ho'] at this
    have hb : ((masksOf ops).getD i 0).testBit j = true := by simpa [hor] using this
    exact fun E hE hd => mask_use ho hb E hE hd

end Go.Proofs.Ytfjeopaaplnoaaa.Av
