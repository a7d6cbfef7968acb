/-
  THE ABSTRACT WALK: a function's contract from its body; what is dropped at its end.
-/
import Derived.Test.YtfjeopaaplnoaaaAvN
namespace Go.Proofs.Ytfjeopaaplnoaaa.Av
open Go Go.RowKit
set_option linter.unusedSimpArgs false

/-- All boxes, tokens and loops that a value names lie below these numbers. -/
inductive Wf (nb no nl : Nat) : AV → Prop
  | sc {v : Value} : Wf nb no nl (.sc v)
  | sl {k : SK} {st : Nat} {xs : List AV} (hk : ∀ t e, k = .own t e → t < no) (h : ∀ (i : Nat) (x : AV) (j : Nat) (c : AV), xs[i]? = some x → x.cells[j]? = some c → Wf nb no nl c) : Wf nb no nl (.sl k st xs)
  | el {cs : List AV} {o : Nat} (h : ∀ (j : Nat) (c : AV), cs[j]? = some c → Wf nb no nl c) : Wf nb no nl (.el cs o)
  | ptr {b o : Nat} (h : b < nb) : Wf nb no nl (.ptr b o)
  | clo {fn : Fn} {fs cs : List AV} (h1 : ∀ (i : Nat) (c : AV), fs[i]? = some c → Wf nb no nl c) (h2 : ∀ (i : Nat) (c : AV), cs[i]? = some c → Wf nb no nl c) : Wf nb no nl (.clo fn fs cs)
  | yld {l : Nat} (h : l < nl) : Wf nb no nl (.yld l)
  | agg {cs : List AV} (h : ∀ (i : Nat) (c : AV), cs[i]? = some c → Wf nb no nl c) : Wf nb no nl (.agg cs)
  | tup {cs : List AV} (h : ∀ (i : Nat) (c : AV), cs[i]? = some c → Wf nb no nl c) : Wf nb no nl (.tup cs)

def KW.cut (K : KW) (nb no nl : Nat) : KW := ⟨K.box.take nb, K.own.take no, K.lp.take nl, K.pub⟩

theorem VR.cutK {K : KW} {v : AV} {r : Value} {nb no nl : Nat} (h : VR K v r) (hw : Wf nb no nl v) : VR (K.cut nb no nl) v r := by
  induction h with
  | sc h => exact .sc h
  | @sl k st xs A n cap rc hs hn hc hl h1 hg _ hk ih =>
    cases hw with
    | sl hk' hx =>
      refine .sl rc hs hn hc hl h1 hg (fun i x j c a b => ih i x j c a b (hx i x j c a b)) ?_
      cases k with
      | ro => trivial
      | ex => exact hk
      | own t e =>
        obtain ⟨B, en, m, q1, q2⟩ := hk
        exact ⟨B, en, m, by simp only [KW.cut]; rw [List.getElem?_take, if_pos (hk' t e rfl)]; exact q1, q2⟩
  | el rc h1 hg _ ih =>
    cases hw with
    | el hx => exact .el rc h1 hg (fun j c a => ih j c a (hx j c a))
  | ptr h =>
    cases hw with
    | ptr hb => exact .ptr (by simp only [KW.cut]; rw [List.getElem?_take, if_pos hb]; exact h)
  | clo hf hc _ _ ih1 ih2 =>
    cases hw with
    | clo w1 w2 => exact .clo hf hc (fun i c r a b => ih1 i c r a b (w1 i c a)) (fun i c r a b => ih2 i c r a b (w2 i c a))
  | yld h =>
    cases hw with
    | yld hb => exact .yld (by simp only [KW.cut]; rw [List.getElem?_take, if_pos hb]; exact h)
  | agg hl hg _ ih =>
    cases hw with
    | agg w1 => exact .agg hl hg (fun i c r a b => ih i c r a b (w1 i c a))
  | tup hl _ ih =>
    cases hw with
    | tup w1 => exact .tup hl (fun i c r a b => ih i c r a b (w1 i c a))

theorem get_agg {cs : List AV} {rs : Array Value} (hl : cs.length = rs.size) {i : Nat} {c : AV} (h : cs[i]? = some c) : ∃ r, rs[i]? = some r :=
  ⟨rs[i]'(hl ▸ (List.getElem?_eq_some_iff.1 h).1), Array.getElem?_eq_getElem _⟩

theorem VR.wf {K : KW} {v : AV} {r : Value} (h : VR K v r) : Wf K.box.length K.own.length K.lp.length v := by
  induction h with
  | sc h => exact .sc
  | @sl k st xs A n cap rc hs hn hc hl h1 hg _ hk ih =>
    refine .sl (fun t e hke => ?_) ih
    subst hke
    obtain ⟨B, en, m, q1, _⟩ := hk
    exact (List.getElem?_eq_some_iff.1 q1).1
  | el rc h1 hg _ ih => exact .el ih
  | ptr h => exact .ptr (List.getElem?_eq_some_iff.1 h).1
  | clo hf hc _ _ ih1 ih2 =>
    exact .clo (fun i c h => let ⟨r, hr⟩ := get_agg hf h; ih1 i c r h hr) (fun i c h => let ⟨r, hr⟩ := get_agg hc h; ih2 i c r h hr)
  | yld h => exact .yld (List.getElem?_eq_some_iff.1 h).1
  | agg hl hg _ ih => exact .agg (fun i c h => let ⟨r, hr⟩ := get_agg hl h; ih i c r h hr)
  | tup hl _ ih => exact .tup (fun i c h => let ⟨r, hr⟩ := get_agg hl h; ih i c r h hr)

def AS.app (S G : AS) : AS := ⟨S.box ++ G.box, S.own ++ G.own, S.lp ++ G.lp⟩

/-- Nothing in this state names what lies beyond it. -/
structure WfS (S : AS) : Prop where
  box : ∀ (b : Nat) (cs : List AV), S.box[b]? = some cs → ∀ c ∈ cs, Wf S.box.length S.own.length S.lp.length c
  lp : ∀ (l : Nat) (L : ALoop), S.lp[l]? = some L → ∀ c ∈ L.t, Wf S.box.length S.own.length S.lp.length c

theorem RR.wfS {K : KW} {S : AS} {w : World} (h : RR K S w) : WfS S := by
  refine ⟨fun b cs hb c hc => ?_, fun l L hl c hc => ?_⟩
  · obtain ⟨i, hi, rfl⟩ := List.mem_iff_getElem.1 hc
    have hlt : b < K.box.length := h.nbox ▸ (List.getElem?_eq_some_iff.1 hb).1
    obtain ⟨cells, T, _, q1, _, q3⟩ := h.box b cs _ hb (List.getElem?_eq_getElem hlt)
    obtain ⟨r, hr⟩ := get_agg q1 (List.getElem?_eq_getElem hi)
    have := (q3 i _ r (List.getElem?_eq_getElem hi) hr).wf
    rwa [h.nbox, h.nown, h.nlp] at this
  · obtain ⟨i, hi, rfl⟩ := List.mem_iff_getElem.1 hc
    have hlt : l < K.lp.length := h.nlp ▸ (List.getElem?_eq_some_iff.1 hl).1
    obtain ⟨lo, _, _, _, _, q, _⟩ := h.lp l L _ hl (List.getElem?_eq_getElem hlt)
    obtain ⟨r, hr⟩ := get_agg q.1 (List.getElem?_eq_getElem hi)
    have := (q.2 i _ r (List.getElem?_eq_getElem hi) hr).wf
    rwa [h.nbox, h.nown, h.nlp] at this

theorem RR.cutR {K : KW} {S G : AS} {w : World} (h : RR K (S.app G) w) (hw : WfS S) : RR (K.cut S.box.length S.own.length S.lp.length) S w := by
  have hb : K.box.length = S.box.length + G.box.length := by rw [h.nbox]; simp [AS.app]
  have ho : K.own.length = S.own.length + G.own.length := by rw [h.nown]; simp [AS.app]
  have hl : K.lp.length = S.lp.length + G.lp.length := by rw [h.nlp]; simp [AS.app]
  refine ⟨by simp [KW.cut]; omega, by simp [KW.cut]; omega, by simp [KW.cut]; omega, ?_, h.boxnd.sublist (List.take_sublist _ _), fun r hr => h.boxpub r (List.mem_of_mem_take hr), h.pub, ?_, ?_, ?_, ?_, h.lpnd.sublist (List.take_sublist _ _)⟩
  · intro b cs r h1 h2
    have hlt : b < S.box.length := (List.getElem?_eq_some_iff.1 h1).1
    simp only [KW.cut] at h2
    rw [List.getElem?_take, if_pos hlt] at h2
    obtain ⟨cells, T, q0, q1, q2, q3⟩ := h.box b cs r (by simp only [AS.app]; rw [List.getElem?_append_left hlt]; exact h1) h2
    exact ⟨cells, T, q0, q1, q2, fun i c v hc hv => (q3 i c v hc hv).cutK (hw.box b cs h1 c (List.mem_of_getElem? hc))⟩
  · intro t B en m e h1
    simp only [KW.cut] at h1
    rw [List.getElem?_take] at h1
    split at h1
    · rename_i hlt
      obtain ⟨q1, q2, q3⟩ := h.own t B en m e h1
      simp only [AS.app] at q1
      rw [List.getElem?_append_left hlt] at q1
      exact ⟨q1, q2, q3⟩
    · cases h1
  · intro t B en m e h1 hB
    simp only [KW.cut] at h1
    rw [List.getElem?_take] at h1
    split at h1
    · exact h.ownbox t B en m e h1 (List.mem_of_mem_take hB)
    · cases h1
  · simp only [KW.cut]; rw [List.map_take]; exact h.ownnd.sublist (List.take_sublist _ _)
  · intro l L r h1 h2
    have hlt : l < S.lp.length := (List.getElem?_eq_some_iff.1 h1).1
    simp only [KW.cut] at h2
    rw [List.getElem?_take, if_pos hlt] at h2
    obtain ⟨lo, q0, q1, q2, q3, q4, q5⟩ := h.lp l L r (by simp only [AS.app]; rw [List.getElem?_append_left hlt]; exact h1) h2
    exact ⟨lo, q0, q1, q2, q3, ⟨q4.1, fun i v u hv hu => (q4.2 i v u hv hu).cutK (hw.lp l L h1 v (List.mem_of_getElem? hv))⟩, q5⟩

theorem Ext.cutE {K K' : KW} {w w' : World} (h : Ext K w K' w') {nb no nl : Nat} (hb : K.box.length ≤ nb) (ho : K.own.length ≤ no) (hl : K.lp.length ≤ nl) : Ext K w (K'.cut nb no nl) w' where
  le := ⟨fun b r hbr => by
      have := (List.getElem?_eq_some_iff.1 hbr).1
      simp only [KW.cut]; rw [List.getElem?_take, if_pos (by omega)]; exact h.le.box b r hbr,
    fun t B en m e ht => by
      obtain ⟨B', en', m', q1, q2⟩ := h.le.own t B en m e ht
      have := (List.getElem?_eq_some_iff.1 ht).1
      exact ⟨B', en', m', by simp only [KW.cut]; rw [List.getElem?_take, if_pos (by omega)]; exact q1, q2⟩,
    fun l r hlr => by
      have := (List.getElem?_eq_some_iff.1 hlr).1
      simp only [KW.cut]; rw [List.getElem?_take, if_pos (by omega)]; exact h.le.lp l r hlr, h.le.pub⟩
  os := h.os
  tape := h.tape
  output := h.output
  size := h.size
  frame := h.frame
  newmut r hr hm := h.newmut r hr (by
    rcases hm with hm | hm | hm
    · exact .inl (List.mem_of_mem_take hm)
    · simp only [KW.cut] at hm; rw [List.map_take] at hm; exact .inr (.inl (List.mem_of_mem_take hm))
    · exact .inr (.inr (List.mem_of_mem_take hm)))
  loops := h.loops
  defs := h.defs
  pubf := h.pubf

/-! ### The marks at the end -/

theorem RR.setOther {K : KW} {S : AS} {w : World} (h : RR K S w) {m : Nat} {d : Option (List Deferred)} (hm : w.heap[m]? = some (.deferred d)) (o : Obj) : RR K S { w with heap := w.heap.setIfInBounds m o } := by
  have hne : ∀ (r : Nat) (o' : Obj), w.heap[r]? = some o' → (∀ d, o' ≠ .deferred d) → ({ w with heap := w.heap.setIfInBounds m o } : World).heap[r]? = some o' := by
    intro r o' hr hd
    have : m ≠ r := fun e => by subst e; rw [hm] at hr; cases hr; exact hd _ rfl
    simp only; rw [Array.getElem?_setIfInBounds_ne this]; exact hr
  refine ⟨h.nbox, h.nown, h.nlp, ?_, h.boxnd, h.boxpub, ?_, ?_, h.ownbox, h.ownnd, ?_, h.lpnd⟩
  · intro b cs r h1 h2
    obtain ⟨c, t, h3, h4⟩ := h.box b cs r h1 h2
    exact ⟨c, t, hne r _ h3 (by simp), h4⟩
  · intro B hB
    obtain ⟨c, t, fr, h3, h4⟩ := h.pub B hB
    exact ⟨c, t, fr, hne B _ h3 (by simp), h4⟩
  · intro t B en m' e h1
    obtain ⟨h2, ⟨c, h3, h4⟩, h5⟩ := h.own t B en m' e h1
    exact ⟨h2, ⟨c, hne B _ h3 (by simp), h4⟩, h5⟩
  · intro l L r h1 h2
    obtain ⟨lo, h3, h4⟩ := h.lp l L r h1 h2
    exact ⟨lo, hne r _ h3 (by simp), h4⟩

theorem Ext.setMark {K K' : KW} {w0 w : World} (h : Ext K w0 K' w) {m : Nat} (hm : w0.heap.size ≤ m) (o : Obj) : Ext K w0 K' { w with heap := w.heap.setIfInBounds m o } := by
  have hne : ∀ (r : Nat), r < w0.heap.size → ({ w with heap := w.heap.setIfInBounds m o } : World).heap[r]? = w.heap[r]? := by
    intro r hr
    simp only; rw [Array.getElem?_setIfInBounds_ne (by omega)]
  refine ⟨h.le, h.os, h.tape, h.output, by simp; exact h.size, fun r hr hn => (hne r hr).trans (h.frame r hr hn), h.newmut, ?_, ?_, h.pubf⟩
  · intro r lo hl
    obtain ⟨lo', h1, h2⟩ := h.loops r lo hl
    exact ⟨lo', (hne r (lt_heap hl)).trans h1, h2⟩
  · intro r d hd
    exact (hne r (lt_heap hd)).trans (h.defs r d hd)

theorem leaves_marks {P : Program} {rd : Option Nat} {fn : Func} {tmps : Array Value} {R : Ending → World → Prop} {K0 : KW} {w0 : World} {K : KW} {S : AS} :
    ∀ (ms : List Nat) (w : World), ms.Nodup → (∀ m ∈ ms, w0.heap.size ≤ m ∧ w.heap[m]? = some (.deferred (some []))) → RR K S w → Ext K0 w0 K w →
      (∀ w', RR K S w' → Ext K0 w0 K w' → ∃ v, (results fn tmps).run P w' = .ok v w' ∧ R (.returned v) w') → LeavesInM (FR rd) 0 P fn tmps R (ms.map markOf) .returning w
  | [], w, _, _, hr, he, h => h w hr he
  | m :: ms, w, hn, hm, hr, he, h => by
    obtain ⟨h1, h2⟩ := hm m (List.mem_cons_self ..)
    obtain ⟨hn1, hn2⟩ := List.nodup_cons.1 hn
    refine ⟨by simp, .inl ⟨m, _, rfl, ?_, leaves_marks ms _ hn2 ?_ (hr.setOther h2 (.deferred none)) (he.setMark h1 _) h⟩⟩
    · simp only [Instr.takeDeferred, getObj, setObj, Sem.run_bind, Sem.run, h2, Result.andThen_ok]
      rfl
    · intro q hq
      obtain ⟨q1, q2⟩ := hm q (List.mem_cons_of_mem _ hq)
      have hne : m ≠ q := fun e => hn1 (e ▸ hq)
      exact ⟨q1, by simp only; rw [Array.getElem?_setIfInBounds_ne hne]; exact q2⟩

/-! ### Results -/

def ares1 (P : Program) (t : List AV) (S : AS) : ResultVar → Option AV
  | .tmp i => some (t.getD i (.tup []))
  | .cell i T => aload P T S (t.getD i (.tup []))

def ares (P : Program) (t : List AV) (S : AS) (rs : List ResultVar) : Option AV :=
  match rs with
  | [r] => ares1 P t S r
  | rs => (rs.mapM (ares1 P t S)).map .tup

def resSem (tmps : Array Value) : ResultVar → Sem Value
  | .tmp t => pure (tmps.getD t Go.undef)
  | .cell q T => do loadVar T (← asAddr (tmps.getD q Go.undef))

theorem results_eq (fn : Func) (tmps : Array Value) : results fn tmps = (do
    let vs ← fn.results.mapM (resSem tmps)
    pure (if h : vs.size = 1 then vs[0] else .tuple vs)) := by
  rfl

theorem ares1_run {P : Program} {K : KW} {t : List AV} {S : AS} {a : Act} {w : World} (h1 : TR K t a.tmps) (h2 : RR K S w) {r : ResultVar} {v : AV} (h : ares1 P t S r = some v) :
    ∃ rv, (resSem a.tmps r).run P w = .ok rv w ∧ VR K v rv := by
  cases r with
  | tmp i =>
    simp only [ares1, Option.some.injEq] at h
    subst h
    exact ⟨_, rfl, h1.ev (.tmp i) rfl⟩
  | cell i T =>
    simp only [ares1] at h
    obtain ⟨A, rv, e, hr, hv⟩ := aload_run (P := P) (T := T) h2 (h1.ev (.tmp i) rfl) h
    simp only [Act.eval] at e
    exact ⟨rv, by simp only [resSem, Sem.run_bind, e, asAddr, Sem.run_pure, Result.andThen_ok, hr], hv⟩

theorem aresM_run {P : Program} {K : KW} {t : List AV} {S : AS} {a : Act} {w : World} (h1 : TR K t a.tmps) (h2 : RR K S w) : ∀ (rs : List ResultVar) (vs : List AV), rs.mapM (ares1 P t S) = some vs →
    ∃ rvs : List Value, (rs.mapM (resSem a.tmps)).run P w = .ok rvs w ∧ vs.length = rvs.length ∧
      ∀ (i : Nat) v r, vs[i]? = some v → rvs[i]? = some r → VR K v r
  | [], vs, h => by simp at h; subst h; exact ⟨[], rfl, rfl, fun i v r h => by simp at h⟩
  | r :: rs, vs, h => by
    simp only [List.mapM_cons, Option.bind_eq_bind, Option.bind_eq_some_iff, Option.pure_def, Option.some.injEq] at h
    obtain ⟨v, hv, vs', hvs, rfl⟩ := h
    obtain ⟨rv, q1, q2⟩ := ares1_run h1 h2 hv
    obtain ⟨rvs, p1, p2, p3⟩ := aresM_run h1 h2 rs vs' hvs
    refine ⟨rv :: rvs, ?_, by simp [p2], ?_⟩
    · simp only [List.mapM_cons, Sem.run_bind]
      rw [q1]
      simp only [Result.andThen_ok]
      rw [p1]
      rfl
    · intro i u s hu hs
      cases i with
      | zero => simp at hu hs; subst hu; subst hs; exact q2
      | succ i => exact p3 i u s (by simpa using hu) (by simpa using hs)

theorem ares_run {P : Program} {K : KW} {t : List AV} {S : AS} {a : Act} {w : World} (h1 : TR K t a.tmps) (h2 : RR K S w) {fn : Func} {v : AV} (h : ares P t S fn.results.toList = some v) :
    ∃ rv, (results fn a.tmps).run P w = .ok rv w ∧ VR K v rv := by
  rw [results_eq, Array.mapM_eq_mapM_toList]
  revert h
  generalize hrs : fn.results.toList = rs
  intro h
  unfold ares at h
  split at h
  · rename_i r
    obtain ⟨rv, q1, q2⟩ := ares1_run h1 h2 h
    refine ⟨rv, ?_, q2⟩
    simp only [List.mapM_cons, List.mapM_nil, Sem.run_bind, Sem.run_map]
    rw [q1]
    simp
  · rename_i hne
    simp only [Option.map_eq_some_iff] at h
    obtain ⟨vs, hvs, rfl⟩ := h
    obtain ⟨rvs, p1, p2, p3⟩ := aresM_run h1 h2 rs vs hvs
    refine ⟨.tuple rvs.toArray, ?_, .tup (by simp [p2]) (fun i c r hc hr => p3 i c r hc (by simpa using hr))⟩
    simp only [Sem.run_bind, Sem.run_map]
    rw [p1]
    simp only [Result.andThen_ok]
    have hlen : rs.length = vs.length := by
      clear p1 p2 p3 hne hrs
      revert vs
      induction rs with
      | nil => intro vs h; simp at h; subst h; rfl
      | cons r rs ih =>
        intro vs h
        simp only [List.mapM_cons, Option.bind_eq_bind, Option.bind_eq_some_iff, Option.pure_def, Option.some.injEq] at h
        obtain ⟨v, _, vs', hvs, rfl⟩ := h
        simp [ih vs' hvs]
    have hn1 : ¬ rvs.toArray.size = 1 := by
      simp only [List.size_toArray, ← p2, ← hlen]
      intro he
      match rs, he with
      | [r], _ => exact hne r rfl
    rw [dif_neg hn1]
    rfl

/-! ### A function's contract -/

/-- At the function's end: 'S1' is what is left of the state 'S2'. -/
structure Leaves (S S2 S1 : AS) (v : AV) : Prop where
  eq : ∃ G, S2 = S1.app G
  nbox : S.box.length ≤ S1.box.length
  nown : S.own.length ≤ S1.own.length
  nlp : S.lp.length ≤ S1.lp.length
  wf : Wf S1.box.length S1.own.length S1.lp.length v
  wfs : WfS S → WfS S1

theorem Leaves.same {S : AS} {v : AV} (G : AS) (hv : Wf S.box.length S.own.length S.lp.length v) : Leaves S (S.app G) S v := ⟨⟨G, rfl⟩, Nat.le_refl _, Nat.le_refl _, Nat.le_refl _, hv, id⟩

/-- What is known of the one is known of the other. -/
def VLe (v v' : AV) : Prop := ∀ K r, VR K v r → VR K v' r

theorem VLe.refl (v : AV) : VLe v v := fun _ _ h => h
theorem VLe.ro (k : SK) (st : Nat) (xs : List AV) : VLe (.sl k st xs) (.sl .ro st xs) := fun _ _ h => h.ro
theorem VLe.tup {vs vs' : List AV} (hl : vs.length = vs'.length) (h : ∀ (i : Nat) v v', vs[i]? = some v → vs'[i]? = some v' → VLe v v') : VLe (.tup vs) (.tup vs') := by
  intro K r hr
  cases hr with
  | tup h1 h2 =>
    refine .tup (hl ▸ h1) (fun i c r hc hr => ?_)
    have hlt : i < vs.length := hl ▸ (List.getElem?_eq_some_iff.1 hc).1
    exact h i _ _ (List.getElem?_eq_getElem hlt) hc _ _ (h2 i _ _ (List.getElem?_eq_getElem hlt) hr)
theorem VLe.tup2 {a b a' b' : AV} (h1 : VLe a a') (h2 : VLe b b') : VLe (.tup [a, b]) (.tup [a', b']) := VLe.tup rfl (fun i v v' hv hv' => by
  match i with
  | 0 => simp at hv hv'; subst hv; subst hv'; exact h1
  | 1 => simp at hv hv'; subst hv; subst hv'; exact h2
  | i + 2 => simp at hv)
theorem VLe.agg {vs vs' : List AV} (hl : vs.length = vs'.length) (hs : ∀ (i : Nat) v, vs'[i]? = some v → v.single = true) (h : ∀ (i : Nat) v v', vs[i]? = some v → vs'[i]? = some v' → VLe v v') : VLe (.agg vs) (.agg vs') := by
  intro K r hr
  cases hr with
  | agg h1 hg h2 =>
    refine .agg (hl ▸ h1) hs (fun i c r hc hr => ?_)
    have hlt : i < vs.length := hl ▸ (List.getElem?_eq_some_iff.1 hc).1
    exact h i _ _ (List.getElem?_eq_getElem hlt) hc _ _ (h2 i _ _ (List.getElem?_eq_getElem hlt) hr)

theorem Wf.mono {nb no nl nb' no' nl' : Nat} {v : AV} (h : Wf nb no nl v) (h1 : nb ≤ nb') (h2 : no ≤ no') (h3 : nl ≤ nl') : Wf nb' no' nl' v := by
  induction h with
  | sc => exact .sc
  | sl hk _ ih => exact .sl (fun t e ht => Nat.lt_of_lt_of_le (hk t e ht) h2) ih
  | el _ ih => exact .el ih
  | ptr h => exact .ptr (Nat.lt_of_lt_of_le h h1)
  | clo _ _ ih1 ih2 => exact .clo ih1 ih2
  | yld h => exact .yld (Nat.lt_of_lt_of_le h h3)
  | agg _ ih => exact .agg ih
  | tup _ ih => exact .tup ih

/-- How a body may be left. -/
def Out (Q : List AV → AS → Prop) : Exit → List AV → AS → Prop
  | .normal, t, S => Q t S
  | .ret, t, S => Q t S
  | _, _, _ => False

theorem ACall.of_body {P : Program} {f : FuncId} {fn : Func} {c : Code} {args : List AV} {S : AS} {Q : AV → AS → Prop} (hf : P.funcs[f]? = some fn) (hb : fn.body = some c) (hc : callable P f = true)
    (h : AW P c (Out fun t' S2 => ∃ v2 v S1, ares P t' S2 fn.results.toList = some v2 ∧ VLe v2 v ∧ Leaves S S2 S1 v ∧ Q v S1) (args ++ List.replicate (fn.ntmps - args.length) (.tup [])) S) : ACall P f args S Q := by
  refine ⟨hc, fun K w rs h1 h2 => ?_⟩
  refine (callsIn_wide (n := 0)).1 (callsIn_of_wp_marks hf hb trivial ?_)
  have htr : TR K (args ++ List.replicate (fn.ntmps - args.length) (.tup [])) (rs ++ Array.replicate (fn.ntmps - rs.size) Go.undef) := by
    refine ⟨by simp [h1.1], fun i v r hv hr => ?_⟩
    by_cases hi : i < args.length
    · rw [List.getElem?_append_left hi] at hv
      rw [Array.getElem?_append_left (h1.1 ▸ hi)] at hr
      exact h1.2 i v r hv hr
    · rw [List.getElem?_append_right (by omega), List.getElem?_replicate] at hv
      rw [Array.getElem?_append_right (by rw [← h1.1]; omega), Array.getElem?_replicate] at hr
      split at hv
      · split at hr
        · cases hv; cases hr; exact VR.undef K
        · cases hr
      · cases hv
  have hw := h none w.heap.size K { tmps := rs ++ Array.replicate (fn.ntmps - rs.size) Go.undef, defers := [] } w htr h2 (fun l hl => by cases hl) ⟨Nat.le_refl _, [], rfl, List.nodup_nil, fun m hm => by cases hm⟩
  refine wpIn_mono hw ?_
  rintro e a' w' ⟨t', S2, K', hq, k1, k2, k3, hB, ms, m1, m2, m3⟩
  have fin : Out (fun t' S2 => ∃ v2 v S1, ares P t' S2 fn.results.toList = some v2 ∧ VLe v2 v ∧ Leaves S S2 S1 v ∧ Q v S1) .normal t' S2 →
      LeavesInM (FR none) 0 P fn a'.tmps (fun e w' => ∃ v rv S' K', e = .returned rv ∧ Q v S' ∧ VR K' v rv ∧ RR K' S' w' ∧ Ext K w K' w') a'.defers .returning w' := by
    rintro ⟨v2, v, S1, hr, hvl, hl, hQ⟩
    rw [m1]
    refine leaves_marks (K := K') (S := S2) (K0 := K) (w0 := w) ms w' m2 m3 k2 k3 (fun w2 r2 e2 => ?_)
    obtain ⟨rv, q1, q2⟩ := ares_run (P := P) (w := w2) k1 r2 hr
    obtain ⟨⟨G, rfl⟩, n1, n2, n3, wv, wS⟩ := hl
    refine ⟨rv, q1, v, rv, S1, K'.cut S1.box.length S1.own.length S1.lp.length, rfl, hQ, (hvl _ _ q2).cutK wv, r2.cutR (wS h2.wfS), e2.cutE ?_ ?_ ?_⟩
    · rw [h2.nbox]; exact n1
    · rw [h2.nown]; exact n2
    · rw [h2.nlp]; exact n3
  cases e with
  | normal => exact fin hq
  | ret => exact fin hq
  | _ => exact hq.elim

end Go.Proofs.Ytfjeopaaplnoaaa.Av
