/-
  THE ABSTRACT WALK: a call may be looked at from the empty state; ranges over functions, and the calls of 'yield' within them.
-/
import Derived.Test.YtfjeopaaplnoaaaAvO
import Derived.RangeFuncNested
namespace Go.Proofs.Ytfjeopaaplnoaaa.Av
open Go Go.RowKit
set_option linter.unusedSimpArgs false
set_option linter.unusedVariables false

theorem KW.not_mut_nil (p : Nat → List Value) (r : Nat) : ¬ KW.mut ⟨[], [], [], p⟩ r := by simp [KW.mut]

theorem WfS.nil : WfS ⟨[], [], []⟩ := ⟨fun b cs h => by simp at h, fun l L h => by simp at h⟩

/-- What a function does from the empty state it does from whatever state, and leaves it alone. -/
theorem ACall.frame {P : Program} {f : FuncId} {args : List AV} {v : AV} (h : ACall P f args ⟨[], [], []⟩ (fun v' _ => v' = v)) (hw : ∀ x ∈ args, Wf 0 0 0 x) (hv : Wf 0 0 0 v) : DCall P f args v := by
  intro S
  refine ⟨h.1, fun K w rs htr hr => ?_⟩
  have hr0 : RR (K.cut 0 0 0) ⟨[], [], []⟩ w := by
    have : RR K ((⟨[], [], []⟩ : AS).app S) w := by simpa [AS.app] using hr
    exact this.cutR .nil
  have ht0 : TR (K.cut 0 0 0) args rs := ⟨htr.1, fun i v r h1 h2 => (htr.2 i v r h1 h2).cutK (hw v (List.mem_of_getElem? h1))⟩
  refine (h.2 _ w rs ht0 hr0).mono ?_
  rintro e w' ⟨v', rv, S', K', rfl, rfl, hv', hr', he⟩
  have hcut : K.cut 0 0 0 = ⟨[], [], [], K.pub⟩ := by simp [KW.cut]
  rw [hcut] at he
  have hnm : ∀ r, ¬ KW.mut ⟨[], [], [], K.pub⟩ r := KW.not_mut_nil K.pub
  have hpub : ∀ r, r < w.heap.size → K'.pub r = K.pub r := fun r h => he.pubf r h (hnm r)
  have hrow : ∀ r, r < w.heap.size → w'.heap[r]? = w.heap[r]? := fun r h => he.frame r h (hnm r)
  have hle : K.le ⟨K.box, K.own, K.lp, K'.pub⟩ := ⟨fun _ _ h => h, fun _ _ _ _ _ h => ⟨_, _, _, h, .inr ⟨rfl, rfl, rfl⟩⟩, fun _ _ h => h, fun B i v hv => he.le.pub B i v hv⟩
  refine ⟨v', rv, S, ⟨K.box, K.own, K.lp, K'.pub⟩, rfl, ⟨rfl, rfl⟩, ?_, ?_, ?_⟩
  · exact (hv'.cutK hv).mono ⟨fun b r h => by simp [KW.cut] at h, fun t B en m e h => by simp [KW.cut] at h, fun l r h => by simp [KW.cut] at h, fun B i v h => h⟩
  · refine ⟨hr.nbox, hr.nown, hr.nlp, ?_, hr.boxnd, ?_, hr'.pub, ?_, hr.ownbox, hr.ownnd, ?_, hr.lpnd⟩
    · intro b cs r h1 h2
      obtain ⟨cells, T, h3, h4⟩ := hr.box b cs r h1 h2
      exact ⟨cells, T, (hrow r (lt_heap h3)).trans h3, h4.mono hle⟩
    · intro r hb
      simp only
      rw [hpub r (hr.box_lt hb)]; exact hr.boxpub r hb
    · intro t B en m e h1
      obtain ⟨h2, ⟨cells, h3, h4⟩, h5⟩ := hr.own t B en m e h1
      exact ⟨h2, ⟨cells, (hrow B (lt_heap h3)).trans h3, h4⟩, by simp only; rw [hpub B (lt_heap h3)]; exact h5⟩
    · intro l L r h1 h2
      obtain ⟨lo, h3, h4⟩ := hr.lp l L r h1 h2
      exact ⟨lo, (hrow r (lt_heap h3)).trans h3, h4.mono hle⟩
  · exact ⟨hle, he.os, he.tape, he.output, he.size, fun r h _ => hrow r h, fun r _ h => h, he.loops, he.defs, fun r h _ => hpub r h⟩

/-- A function's contract: all that it has laid is kept. -/
theorem ACall.of_body_all {P : Program} {f : FuncId} {fn : Func} {c : Code} {args : List AV} {S : AS} {Q : AV → AS → Prop} (hf : P.funcs[f]? = some fn) (hb : fn.body = some c) (hc : callable P f = true)
    (h : AW P c (Out fun t' S2 => ∃ v2 v, ares P t' S2 fn.results.toList = some v2 ∧ VLe v2 v ∧ Q v S2) (args ++ List.replicate (fn.ntmps - args.length) (.tup [])) S) : ACall P f args S Q := by
  refine ⟨hc, fun K w rs h1 h2 => ?_⟩
  refine (callsIn_wide (n := 0)).1 (callsIn_of_wp_marks hf hb trivial ?_)
  have htr : TR K (args ++ List.replicate (fn.ntmps - args.length) (.tup [])) (rs ++ Array.replicate (fn.ntmps - rs.size) Go.undef) := by
    refine ⟨by simp [h1.1], fun i v r hv hr => ?_⟩
    by_cases hi : i < args.length
    · rw [List.getElem?_append_left hi] at hv
      rw [Array.getElem?_append_left (h1.1 ▸ hi)] at hr
      exact h1.2 i v r hv hr
    · rw [List.getElem?_append_right (by omega), List.getElem?_replicate] at hv
      rw [Array.getElem?_append_right (by rw [← h1.1]; omega), Array.getElem?_replicate] at hr
      split at hv
      · split at hr
        · cases hv; cases hr; exact VR.undef K
        · cases hr
      · cases hv
  have hw := h none w.heap.size K { tmps := rs ++ Array.replicate (fn.ntmps - rs.size) Go.undef, defers := [] } w htr h2 (fun l hl => by cases hl) ⟨Nat.le_refl _, [], rfl, List.nodup_nil, fun m hm => by cases hm⟩
  refine wpIn_mono hw ?_
  rintro e a' w' ⟨t', S2, K', hq, k1, k2, k3, hB, ms, m1, m2, m3⟩
  have fin : Out (fun t' S2 => ∃ v2 v, ares P t' S2 fn.results.toList = some v2 ∧ VLe v2 v ∧ Q v S2) .normal t' S2 →
      LeavesInM (FR none) 0 P fn a'.tmps (fun e w' => ∃ v rv S' K', e = .returned rv ∧ Q v S' ∧ VR K' v rv ∧ RR K' S' w' ∧ Ext K w K' w') a'.defers .returning w' := by
    rintro ⟨v2, v, hr, hvl, hQ⟩
    rw [m1]
    refine leaves_marks (K := K') (S := S2) (K0 := K) (w0 := w) ms w' m2 m3 k2 k3 (fun w2 r2 e2 => ?_)
    obtain ⟨rv, q1, q2⟩ := ares_run (P := P) (w := w2) k1 r2 hr
    exact ⟨rv, q1, v, rv, S2, K', rfl, hQ, hvl _ _ q2, r2, e2⟩
  cases e with
  | normal => exact fin hq
  | ret => exact fin hq
  | _ => exact hq.elim

/-! ### Loops' records -/

def AS.pushLp (S : AS) (L : ALoop) : AS := { S with lp := S.lp ++ [L] }
def AS.setLp (S : AS) (l : Nat) (L : ALoop) : AS := { S with lp := S.lp.set l L }

theorem putObj_other {w : World} {r k : Nat} {o o' : Obj} (h : w.heap[k]? = some o') (hne : k ≠ r) : (w.putObj r o).heap[k]? = some o' := (World.putObj_heap_other hne).trans h

/-- A record turns: nothing else does. -/
theorem RR.setLoop {K : KW} {S : AS} {w : World} (h : RR K S w) {l r : Nat} {lo lo' : Loop} {L : ALoop} (hl : K.lp[l]? = some r) (ho : w.heap[r]? = some (.loop lo)) (hd : lo'.defers = lo.defers) (hL : LR K L lo') :
    RR K (S.setLp l L) (w.putObj r (.loop lo')) ∧ Ext K w K (w.putObj r (.loop lo')) := by
  have hlt := lt_heap ho
  have hother : ∀ (k : Nat) (o' : Obj), w.heap[k]? = some o' → (∀ q, o' ≠ .loop q) → (w.putObj r (.loop lo')).heap[k]? = some o' := fun k o' hk hq =>
    putObj_other hk (fun e => by subst e; rw [ho] at hk; cases hk; exact hq _ rfl)
  refine ⟨⟨h.nbox, h.nown, by simp [AS.setLp, h.nlp], ?_, h.boxnd, h.boxpub, ?_, ?_, h.ownbox, h.ownnd, ?_, h.lpnd⟩, ⟨.refl _, rfl, rfl, rfl, by simp, ?_, fun _ _ hm => hm, ?_, ?_, fun _ _ _ => rfl⟩⟩
  · intro b cs q h1 h2
    obtain ⟨cells, T, h3, h4⟩ := h.box b cs q h1 h2
    exact ⟨cells, T, hother _ _ h3 (by simp), h4⟩
  · intro B hB
    obtain ⟨cells, T, fr, h3, h4⟩ := h.pub B hB
    exact ⟨cells, T, fr, hother _ _ h3 (by simp), h4⟩
  · intro t B en m e h1
    obtain ⟨h2, ⟨cells, h3, h4⟩, h5⟩ := h.own t B en m e h1
    exact ⟨h2, ⟨cells, hother _ _ h3 (by simp), h4⟩, h5⟩
  · intro l' L' q h1 h2
    by_cases e : l' = l
    · subst e
      rw [hl] at h2; cases h2
      have hlt' : l' < S.lp.length := h.nlp ▸ (List.getElem?_eq_some_iff.1 hl).1
      simp only [AS.setLp, List.getElem?_set_self hlt', Option.some.injEq] at h1
      subst h1
      exact ⟨lo', World.putObj_heap_same hlt, hL⟩
    · simp only [AS.setLp, List.getElem?_set_ne (Ne.symm e)] at h1
      obtain ⟨lo2, h3, h4⟩ := h.lp l' L' q h1 h2
      exact ⟨lo2, putObj_other h3 (fun e' => by subst e'; exact e (nodup_get h.lpnd h2 hl)), h4⟩
  · intro k hk hm
    exact World.putObj_heap_other (fun e => hm (.inr (.inr (e ▸ List.mem_of_getElem? hl))))
  · intro k lo2 hk
    by_cases e : k = r
    · subst e; rw [ho] at hk; cases hk; exact ⟨lo', World.putObj_heap_same hlt, hd⟩
    · exact ⟨lo2, putObj_other hk e, rfl⟩
  · intro k d hk
    exact hother k _ hk (by simp)

/-- A record that the state does not know turns. -/
theorem RR.setOld {K : KW} {S : AS} {w : World} (h : RR K S w) {r : Nat} {lo : Loop} (hl : r ∉ K.lp) (ho : w.heap[r]? = some (.loop lo)) (o : Obj) : RR K S (w.putObj r o) := by
  have hother : ∀ (k : Nat) (o' : Obj), w.heap[k]? = some o' → (∀ q, o' ≠ .loop q) → (w.putObj r o).heap[k]? = some o' := fun k o' hk hq =>
    putObj_other hk (fun e => by subst e; rw [ho] at hk; cases hk; exact hq _ rfl)
  refine ⟨h.nbox, h.nown, h.nlp, ?_, h.boxnd, h.boxpub, ?_, ?_, h.ownbox, h.ownnd, ?_, h.lpnd⟩
  · intro b cs q h1 h2
    obtain ⟨cells, T, h3, h4⟩ := h.box b cs q h1 h2
    exact ⟨cells, T, hother _ _ h3 (by simp), h4⟩
  · intro B hB
    obtain ⟨cells, T, fr, h3, h4⟩ := h.pub B hB
    exact ⟨cells, T, fr, hother _ _ h3 (by simp), h4⟩
  · intro t B en m e h1
    obtain ⟨h2, ⟨cells, h3, h4⟩, h5⟩ := h.own t B en m e h1
    exact ⟨h2, ⟨cells, hother _ _ h3 (by simp), h4⟩, h5⟩
  · intro l' L' q h1 h2
    obtain ⟨lo2, h3, h4⟩ := h.lp l' L' q h1 h2
    exact ⟨lo2, putObj_other h3 (fun e' => hl (e' ▸ List.mem_of_getElem? h2)), h4⟩

/-- A new record. -/
theorem RR.newloop {K : KW} {S : AS} {w : World} (h : RR K S w) {lo : Loop} {L : ALoop} (hL : LR K L lo) :
    RR { K with lp := K.lp ++ [w.heap.size] } (S.pushLp L) (w.alloc (.loop lo)) ∧ Ext K w { K with lp := K.lp ++ [w.heap.size] } (w.alloc (.loop lo)) := by
  have hle : K.le { K with lp := K.lp ++ [w.heap.size] } :=
    ⟨fun _ _ h => h, fun _ _ _ _ _ h => ⟨_, _, _, h, .inr ⟨rfl, rfl, rfl⟩⟩, fun b r hb => by simp only; rw [List.getElem?_append_left (List.getElem?_eq_some_iff.1 hb).1]; exact hb, fun _ _ _ h => h⟩
  have ha := h.alloc (.loop lo)
  refine ⟨⟨ha.nbox, ha.nown, by simp [AS.pushLp, h.nlp], fun b cs r h1 h2 => let ⟨c, t, h3, h4⟩ := ha.box b cs r h1 h2; ⟨c, t, h3, h4.mono hle⟩, ha.boxnd, ha.boxpub, ha.pub, ha.own, ha.ownbox, ha.ownnd, ?_, ?_⟩,
    ⟨hle, rfl, rfl, rfl, by simp, fun _ hr _ => alloc_old hr, ?_, fun _ lo h => ⟨lo, alloc_some h, rfl⟩, fun _ _ h => alloc_some h, fun _ _ _ => rfl⟩⟩
  · intro l L' r h1 h2
    simp only [AS.pushLp] at h1 h2
    by_cases hb : l < S.lp.length
    · rw [List.getElem?_append_left hb] at h1
      rw [List.getElem?_append_left (h.nlp ▸ hb)] at h2
      obtain ⟨lo2, h3, h4⟩ := ha.lp l L' r h1 h2
      exact ⟨lo2, h3, h4.mono hle⟩
    · rw [List.getElem?_append_right (by omega)] at h1
      rw [List.getElem?_append_right (by rw [h.nlp]; omega), h.nlp] at h2
      have hb0 : l - S.lp.length = 0 := by
        have := (List.getElem?_eq_some_iff.1 h1).1
        simp at this; omega
      rw [hb0] at h1 h2
      simp at h1 h2
      subst h1; subst h2
      exact ⟨lo, heap_alloc_new w _, hL.mono hle⟩
  · show (K.lp ++ [w.heap.size]).Nodup
    rw [List.nodup_append]
    refine ⟨h.lpnd, by simp, ?_⟩
    intro a ha' b hb
    simp at hb
    subst hb
    intro e; subst e
    exact Nat.lt_irrefl _ (h.lp_lt ha')
  · intro r hr hm
    rcases hm with hm | hm | hm
    · exact .inl hm
    · exact .inr (.inl hm)
    · simp only [List.mem_append, List.mem_singleton] at hm
      rcases hm with hm | rfl
      · exact .inr (.inr hm)
      · exact absurd hr (Nat.lt_irrefl _)

theorem KW.le.len {K K' : KW} (h : K.le K') : K.box.length ≤ K'.box.length ∧ K.own.length ≤ K'.own.length ∧ K.lp.length ≤ K'.lp.length := by
  refine ⟨?_, ?_, ?_⟩
  · rcases Nat.eq_zero_or_pos K.box.length with e | e
    · omega
    · have := (List.getElem?_eq_some_iff.1 (h.box (K.box.length - 1) _ (List.getElem?_eq_getElem (by omega)))).1
      omega
  · rcases Nat.eq_zero_or_pos K.own.length with e | e
    · omega
    · obtain ⟨⟨B, en, m, ee⟩, he⟩ : ∃ q, K.own[K.own.length - 1]? = some q := ⟨_, List.getElem?_eq_getElem (by omega)⟩
      obtain ⟨_, _, _, q1, _⟩ := h.own _ _ _ _ _ he
      have := (List.getElem?_eq_some_iff.1 q1).1
      omega
  · rcases Nat.eq_zero_or_pos K.lp.length with e | e
    · omega
    · have := (List.getElem?_eq_some_iff.1 (h.lp (K.lp.length - 1) _ (List.getElem?_eq_getElem (by omega)))).1
      omega

/-! ### A call of 'yield' -/

def yldT (ps : Array Tmp) (args : List AV) (t : List AV) : List AV := (ps.toList.zip args).foldl (fun t (q : Tmp × AV) => t.set q.1 q.2) t

theorem TR.set {K : KW} {t : List AV} {tmps : Array Value} (h : TR K t tmps) {v : AV} {r : Value} (hv : VR K v r) (i : Nat) : TR K (t.set i v) (tmps.setIfInBounds i r) := by
  refine ⟨by simp [h.1], fun j u s hu hs => ?_⟩
  by_cases e : j = i
  · subst e
    have hj : j < t.length := by have := (List.getElem?_eq_some_iff.1 hu).1; simpa using this
    rw [List.getElem?_set_self hj] at hu
    rw [Array.getElem?_setIfInBounds_self_of_lt (h.1 ▸ hj)] at hs
    cases hu; cases hs; exact hv
  · rw [List.getElem?_set_ne (Ne.symm e)] at hu
    rw [Array.getElem?_setIfInBounds_ne (Ne.symm e)] at hs
    exact h.2 j u s hu hs

theorem TR.yldL {K : KW} : ∀ (ps : List Tmp) (args : List AV) (rs : List Value) (t : List AV) (tmps : Array Value), TR K t tmps → args.length = rs.length → (∀ (i : Nat) v r, args[i]? = some v → rs[i]? = some r → VR K v r) →
    TR K ((ps.zip args).foldl (fun t (q : Tmp × AV) => t.set q.1 q.2) t) ((ps.zip rs).foldl (fun t (q : Tmp × Value) => t.setIfInBounds q.1 q.2) tmps)
  | [], _, _, t, tmps, h, _, _ => by simpa using h
  | p :: ps, [], [], t, tmps, h, _, _ => by simpa using h
  | p :: ps, a :: args, r :: rs, t, tmps, h, hl, hv => by
    simp only [List.zip_cons_cons, List.foldl_cons]
    exact TR.yldL ps args rs _ _ (h.set (hv 0 a r rfl rfl) p) (by simpa using hl) (fun i v r h1 h2 => hv (i + 1) v r (by simpa using h1) (by simpa using h2))

/-- How a round is left. -/
def roundQ (l : Nat) (Kp : AV → AS → Prop) : Exit → List AV → AS → Prop
  | .normal, _, S => ∃ L, S.lp[l]? = some L ∧ Kp (.sc (.bool true)) (S.setLp l { L with st := .ready })
  | .ret, _, S => ∃ L, S.lp[l]? = some L ∧ Kp (.sc (.bool false)) (S.setLp l { L with st := .done .ret })
  | .exit id, _, S => ∃ L, S.lp[l]? = some L ∧ Kp (.sc (.bool false)) (S.setLp l { L with st := .done (.exit id) })
  | _, _, _ => False

/-- The body, behind the assignments to the loop's variables. -/
def bodyQ (P : Program) (l : Nat) (body : Code) (Kp : AV → AS → Prop) : Exit → List AV → AS → Prop
  | .normal, t1, S1 => ∃ L1, S1.lp[l]? = some L1 ∧ L1.st = .ready ∧ AW P body (roundQ l Kp) t1 (S1.setLp l { L1 with st := .busy })
  | _, _, _ => False

def AYield (P : Program) (l : Nat) (args : List AV) (S : AS) (Kp : AV → AS → Prop) : Prop :=
  ∃ L, S.lp[l]? = some L ∧ args.length = L.params.size ∧ AW P L.assign (bodyQ P l L.body Kp) (yldT L.params args L.t) S

section
variable {P : Program} {o : Oper} {t : List AV} {S : AS} {Kp : AV → AS → Prop}

theorem AOp.yield {f : Operand} {args : Array Operand} {T : Array TypeId} {l : Nat} (ho : o.op = .call { callee := .value f, args := args, argTypes := T }) (hf : okConst f = true) (ha : args.all okConst = true)
    (ef : ev t f = .yld l) (h : AYield P l (args.toList.map (ev t)) S Kp) : AOp P o t S Kp := by
  refine ⟨by rw [ho]; exact fun _ h => (nomatch h), fun rd K a w h1 h2 h3 => ?_⟩
  have e1 := h1.ev f hf (by rw [ho]; simp [Op.operands, Call.operands])
  rw [ef] at e1
  generalize hrf : a.eval f = rf at e1
  obtain ⟨L, hL, hlen, hw⟩ := h
  cases e1 with
  | @yld _ r hl =>
    obtain ⟨lo, hlo, l1, l2, l3, l4, l5⟩ := h2.lp l L r hL hl
    have hsz : (args.map a.eval).size = lo.params.size := by rw [l1, ← hlen]; simp
    have hrun : (execOp a.eval o).run P w = .ok (.round r lo.fn ((lo.params.zip (args.map a.eval)).foldl (fun tmps (t, a) => tmps.setIfInBounds t a) lo.tmps) lo.assign lo.body) w := by
      have := run_yield (P := P) hlo hsz
      simp [execOp, ho, resolve, Deferred.ofValue, hrf, invoke, this]
    rw [hrun]
    refine roundIn_of_wpIn (F := FR rd) trivial ?_
    rw [l2, l3]
    have hval : ∀ (i : Nat) v q, (args.toList.map (ev t))[i]? = some v → (args.map a.eval).toList[i]? = some q → VR K v q := by
      intro i v q hv hq
      simp only [List.getElem?_map, Option.map_eq_some_iff, Array.toList_map, Array.getElem?_toList] at hv hq
      obtain ⟨x, hx, rfl⟩ := hv
      obtain ⟨y, hy, rfl⟩ := hq
      rw [hx] at hy; cases hy
      exact h1.ev x (by simp only [Array.all_eq_true'] at ha; exact ha x (Array.mem_of_getElem? hx)) (by rw [ho]; simp [Op.operands, Call.operands, Array.mem_of_getElem? hx])
    have htr : TR K (yldT L.params (args.toList.map (ev t)) L.t) ((lo.params.zip (args.map a.eval)).foldl (fun tmps (t, a) => tmps.setIfInBounds t a) lo.tmps) := by
      rw [l1, ← Array.foldl_toList, Array.toList_zip]
      exact TR.yldL L.params.toList _ _ _ _ l4 (by simp) hval
    refine wpIn_mono (hw (some r) 0 K { tmps := _, defers := [] } w htr h2 (fun q hq => by cases hq; exact ⟨lo, hlo⟩) ⟨Nat.zero_le _, [], rfl, List.nodup_nil, fun m hm => by cases hm⟩) ?_
    rintro e a1 w1 ⟨t1, S1, K1, hq, k1, k2, k3, k4⟩
    cases e with
    | normal =>
      obtain ⟨L1, q1, q2, q3⟩ := hq
      have hl1 := k3.le.lp l r hl
      obtain ⟨lo1, hlo1, m1, m2, m3, m4, m5⟩ := k2.lp l L1 r q1 hl1
      rw [q2] at m5
      obtain ⟨rr, re⟩ := k2.setLoop (lo' := { lo1 with state := .busy }) (L := { L1 with st := .busy }) hl1 hlo1 rfl ⟨m1, m2, m3, m4, rfl⟩
      refine ⟨_, run_beginRound hlo1 m5.1, wpIn_mono (q3 (some r) 0 K1 a1 _ k1 rr (fun q hq => by cases hq; exact ⟨_, World.putObj_heap_same (lt_heap hlo1)⟩) (k4.ext re)) ?_⟩
      rintro e2 a2 w2 ⟨t2, S2, K2, p1, p2, p3, p4, p5⟩
      have hl2 := p4.le.lp l r hl1
      have fin : ∀ (jump : Option Code) (st : LSt) (L2 : ALoop), S2.lp[l]? = some L2 → LStR st { (default : Loop) with state := if jump.isNone then .ready else .done, pending := jump } → Kp (.sc (.bool jump.isNone)) (S2.setLp l { L2 with st := st }) →
          ∃ v w', (Instr.endRound r jump).run P w2 = .ok v w' ∧ ∃ v', (Ending.returned v) = Ending.returned v' ∧ OpPost Kp K w v' w' := by
        intro jump st L2 hL2 hst hk
        obtain ⟨lo2, hlo2, n1, n2, n3, n4, n5⟩ := p3.lp l L2 r hL2 hl2
        obtain ⟨sr, se⟩ := p3.setLoop (lo' := { lo2 with state := if jump.isNone then .ready else .done, pending := jump }) (L := { L2 with st := st }) hl2 hlo2 rfl ⟨n1, n2, n3, n4, by
          cases st <;> exact hst⟩
        exact ⟨_, _, run_endRound jump hlo2, _, rfl, _, _, K2, hk, .sc rfl, sr, ((k3.trans re).trans p4).trans se⟩
      cases e2 with
      | normal => obtain ⟨L2, hL2, hk⟩ := p1; exact fin none .ready L2 hL2 ⟨rfl, rfl⟩ hk
      | ret => obtain ⟨L2, hL2, hk⟩ := p1; exact fin (some .ret) (.done .ret) L2 hL2 ⟨rfl, rfl⟩ hk
      | exit id => obtain ⟨L2, hL2, hk⟩ := p1; exact fin (some (.exit id)) (.done (.exit id)) L2 hL2 ⟨rfl, rfl⟩ hk
      | goto l => exact p1.elim
      | panic c => exact p1.elim
      | outgrown => exact p1.elim
    | _ => exact hq.elim

/-- At the end of a range over a function: how on. -/
def rangeQ (P : Program) (n : Nat) (t : List AV) (Q : Exit → List AV → AS → Prop) (_ : AV) (S' : AS) : Prop :=
  ∃ L, S'.lp[n]? = some L ∧
    match L.st with
    | .ready => Q .normal t (S'.setLp n { L with st := .over })
    | .done c => AW P c Q t (S'.setLp n { L with st := .over })
    | _ => False

theorem AW.rangeFunc {f : Operand} {ps : Array Tmp} {assign body : Code} {Q : Exit → List AV → AS → Prop} {g : FuncId} {fs cs : List AV} (hf : okConst f = true) (ef : ev t f = .clo (.func g) fs cs)
    (h : ACall P g (fs ++ [.yld S.lp.length] ++ cs) (S.pushLp ⟨.ready, t, ps, assign, body⟩) (rangeQ P S.lp.length t Q)) : AW P (.rangeFunc f ps assign body) Q t S := by
  intro rd B K a w h1 h2 h3 h4
  refine wpIn_rangeFunc ?_
  intro fn _
  have e1 := h1.ev f hf
  rw [ef] at e1
  generalize hrf : a.eval f = rf at e1
  cases e1 with
  | @clo _ _ _ rfs rcs hl1 hl2 q1 q2 =>
  obtain ⟨hc, hcall⟩ := h
  -- the record
  have key : ∀ (w0 : World) (mark : List Deferred) (d : Nat), RR K S w0 → Ext K w K w0 → Marks B (mark ++ a.defers) w0 →
      (Instr.enterLoop fn a.tmps ps assign body rd).run P w = .ok (w0.heap.size, mark) (w0.alloc (.loop { state := .ready, pending := none, fn, tmps := a.tmps, params := ps, assign, body, defers := d })) →
      ∃ (l : Nat) (mark : List Deferred) (w₁ : World) (d : Deferred) (w₁' : World) (f' : FuncId) (args : Array Value) (w₂ : World),
      (Instr.enterLoop fn a.tmps ps assign body rd).run P w = .ok (l, mark) w₁ ∧
      (resolve a.eval (rangeCall f l) 0).run P w₁ = .ok d w₁' ∧
      (∀ f'', Target.leads P w₁' d.target d.args = some f'' → (FR rd).fn f'') ∧
      (invoke d.target d.args).run P w₁' = .ok (.enter f' args) w₂ ∧
      ((FR rd).depth.isSome = true → 1 ≤ 0) ∧
      CallsIn (FR rd) (0 - 1) P f' args w₂ (rangePost (FR rd) 0 P l (PostR Q B K w) { a with defers := mark ++ a.defers }) := by
    intro w0 mark d r0 x0 m0 hrun
    obtain ⟨r1, x1⟩ := r0.newloop (lo := { state := .ready, pending := none, fn, tmps := a.tmps, params := ps, assign, body, defers := d }) (L := ⟨.ready, t, ps, assign, body⟩) ⟨rfl, rfl, rfl, h1, rfl, rfl⟩
    have hres : (resolve a.eval (rangeCall f w0.heap.size) 0).run P (w0.alloc (.loop { state := .ready, pending := none, fn, tmps := a.tmps, params := ps, assign, body, defers := d })) =
        .ok { target := .fn (.func g) rcs, args := rfs ++ #[.func (.yield w0.heap.size) #[] #[]] } (w0.alloc (.loop { state := .ready, pending := none, fn, tmps := a.tmps, params := ps, assign, body, defers := d })) := by
      have hcst : ∀ v : Value, a.eval (.const v) = v := fun _ => rfl
      simp [resolve, Deferred.ofValue, hrf, hcst]
    have hinv : (invoke (.fn (.func g) rcs) (rfs ++ #[.func (.yield w0.heap.size) #[] #[]])).run P (w0.alloc (.loop { state := .ready, pending := none, fn, tmps := a.tmps, params := ps, assign, body, defers := d })) =
        .ok (.enter g (rfs ++ #[.func (.yield w0.heap.size) #[] #[]] ++ rcs)) (w0.alloc (.loop { state := .ready, pending := none, fn, tmps := a.tmps, params := ps, assign, body, defers := d })) := by
      unfold callable at hc
      split at hc
      · rename_i fn' hfn'
        simp only [Bool.and_eq_true, Bool.not_eq_true', beq_eq_false_iff_ne, ne_eq] at hc
        obtain ⟨hb, hname⟩ := hc
        simp [invoke, callFunc, hfn', hname]
        intro hn; rw [hn] at hb; cases hb
      · cases hc
    refine ⟨_, _, _, _, _, _, _, _, hrun, hres, fun _ _ => trivial, hinv, fun h => by simp at h, ?_⟩
    have hy : ({ K with lp := K.lp ++ [w0.heap.size] } : KW).lp[S.lp.length]? = some w0.heap.size := by rw [← h2.nlp]; simp
    have htr : TR { K with lp := K.lp ++ [w0.heap.size] } (fs ++ [.yld S.lp.length] ++ cs) (rfs ++ #[.func (.yield w0.heap.size) #[] #[]] ++ rcs) := by
      refine ⟨by simp [hl1, hl2]; omega, fun i v r hv hr => ?_⟩
      by_cases i1 : i < fs.length
      · rw [List.append_assoc, List.getElem?_append_left i1] at hv
        rw [Array.append_assoc, Array.getElem?_append_left (hl1 ▸ i1)] at hr
        exact (q1 _ _ _ hv hr).mono x1.le
      · by_cases i2 : i < fs.length + 1
        · rw [List.getElem?_append_left (by simp; exact i2), List.getElem?_append_right (by omega)] at hv
          rw [Array.getElem?_append_left (by simp [← hl1]; exact i2), Array.getElem?_append_right (by omega)] at hr
          have hi : i - fs.length = 0 := by omega
          rw [hi] at hv
          rw [← hl1, hi] at hr
          simp at hv hr
          subst hv; subst hr
          exact .yld hy
        · rw [List.getElem?_append_right (by simp; omega)] at hv
          rw [Array.getElem?_append_right (by simp; omega)] at hr
          refine (q2 _ _ _ hv ?_).mono x1.le
          rw [← hr]; congr 1; simp [hl1]
    have hC := (hcall _ _ _ htr r1)
    refine (callsIn_wide (n := 0)).2 (hC.mono ?_)
    rintro e w3 ⟨v, rv, S', K', rfl, hq, hv, hr', he⟩
    obtain ⟨L, hLg, hq⟩ := hq
    have hl' : K'.lp[S.lp.length]? = some w0.heap.size := he.le.lp _ _ hy
    obtain ⟨lo3, hlo3, n1, n2, n3, n4, n5⟩ := hr'.lp _ _ _ hLg hl'
    have hb : lo3.state ≠ .busy := by
      revert hq n5
      cases L.st <;> simp only [LStR]
      · rintro _ ⟨h, _⟩ hh; rw [h] at hh; cases hh
      · exact fun h => h.elim
      · rintro _ ⟨h, _⟩ hh; rw [h] at hh; cases hh
      · exact fun h => h.elim
    refine ⟨_, _, run_endLoop hlo3 hb, ?_⟩
    have hxx : Ext K w K' w3 := (x0.trans x1).trans he
    obtain ⟨hfin, hfx0⟩ := hr'.setLoop (lo' := { lo3 with state := .exhausted }) (L := { L with st := .over }) hl' hlo3 rfl ⟨n1, n2, n3, n4, trivial⟩
    have hfx := hxx.trans hfx0
    have hmk : Marks B (mark ++ a.defers) (w3.putObj w0.heap.size (.loop { lo3 with state := .exhausted })) := m0.ext ((x1.trans he).trans hfx0)
    have htt : TR K' t a.tmps := h1.mono hfx.le
    revert hfin hfx hmk
    generalize w3.putObj w0.heap.size (.loop { lo3 with state := .exhausted }) = W
    intro hfin hfx hmk
    revert hq n5
    cases hst : L.st with
    | ready =>
      intro hq n5
      obtain ⟨_, hp⟩ := n5
      rw [hp]
      exact ⟨t, _, _, hq, htt, hfin, hfx, hmk⟩
    | busy => intro hq; exact hq.elim
    | over => intro hq; exact hq.elim
    | done c =>
      intro hq n5
      obtain ⟨_, hp⟩ := n5
      rw [hp]
      exact wpIn_mono (hq rd B _ { a with defers := mark ++ a.defers } _ htt hfin (h3.ext hfx) hmk) (fun _ _ _ h => h.trans hfx)
  cases rd with
  | none =>
    refine key (w.alloc (.deferred (some []))) [markOf w.heap.size] w.heap.size (h2.alloc _) (Ext.alloc _ _ _) ?_ ?_
    · obtain ⟨b0, ms, b1, b2, b3⟩ := h4
      refine ⟨by simp; omega, w.heap.size :: ms, by simp [b1], List.nodup_cons.2 ⟨fun hm => Nat.lt_irrefl _ (lt_heap (b3 _ hm).2), b2⟩, ?_⟩
      intro m hm
      rcases List.mem_cons.1 hm with rfl | hm
      · exact ⟨b0, heap_alloc_new w _⟩
      · exact ⟨(b3 m hm).1, alloc_some (b3 m hm).2⟩
    · have := run_enterLoop_outer (P := P) (w := w) fn a.tmps ps assign body
      simpa [markOf, World.size_alloc] using this
  | some l0 =>
    obtain ⟨r0, hr0⟩ := h3 l0 rfl
    exact key w [] r0.defers h2 (.refl _ _) (by simpa using h4) (run_enterLoop_inner hr0 fn a.tmps ps assign body)

end
end Go.Proofs.Ytfjeopaaplnoaaa.Av
