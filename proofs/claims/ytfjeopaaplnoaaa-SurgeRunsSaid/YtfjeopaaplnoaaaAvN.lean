/-
  THE ABSTRACT WALK: a region that draws its order (3): the law itself.
-/
import Derived.Test.YtfjeopaaplnoaaaAvM
namespace Go.Proofs.Ytfjeopaaplnoaaa.Av
open Go Go.RowKit
set_option linter.unusedSimpArgs false

section
variable {P : Program} {ops : Array Oper}

def cntF (l : List Bool) : Nat := l.countP (fun b => !b)

theorem cntF_set : ∀ (l : List Bool) (i : Nat), l[i]? = some false → cntF (l.set i true) + 1 = cntF l
  | [], i, h => by simp at h
  | b :: l, 0, h => by simp at h; subst h; simp [cntF]
  | b :: l, i + 1, h => by
    have := cntF_set l i (by simpa using h)
    simp only [cntF, List.set_cons_succ, List.countP_cons] at this ⊢
    omega

theorem cntF_zero {l : List Bool} (h : cntF l = 0) : ∀ (i : Nat) (b : Bool), l[i]? = some b → b = true := by
  intro i b hb
  have := (List.countP_eq_zero.1 h) b (List.mem_of_getElem? hb)
  simpa using this

theorem ready_deps {listed : Array Bool} {i : Nat} (h : i ∈ Region.ready .any ops listed) : listed.getD i true = false ∧ ∃ o, ops[i]? = some o ∧ ∀ d ∈ odeps o, Up listed d := by
  obtain ⟨h1, o, h2, h3⟩ := mem_ready.1 h
  refine ⟨h1, o, h2, fun d hd => ?_⟩
  unfold odeps at hd
  obtain ⟨e, he, hed⟩ := List.mem_filterMap.1 hd
  split at hed
  · rename_i hb
    simp only [Option.some.injEq] at hed
    subst hed
    have := h3 e (by simpa using he) hb
    unfold Up
    rw [Array.getD_eq_getD_getElem?] at this
    cases hq : listed[e.on]? with
    | none => rw [hq] at this; simp at this
    | some b => rw [hq] at this; simp at this; rw [this]
  · cases hed

theorem not_up {listed : Array Bool} {i : Nat} (h : listed.getD i true = false) : i < listed.size ∧ ¬ Up listed i ∧ listed[i]? = some false := by
  rw [Array.getD_eq_getD_getElem?] at h
  cases hq : listed[i]? with
  | none => rw [hq] at h; simp at h
  | some b =>
    rw [hq] at h; simp at h; subst h
    exact ⟨(Array.getElem?_eq_some_iff.1 hq).1, by unfold Up; rw [hq]; simp, rfl⟩

theorem all_up {ix : Oper → Bool} (hok : DrawOk ops ix) {listed : Array Bool} (hs : listed.size = ops.size) (hr : Region.ready .any ops listed = []) : ∀ i, i < ops.size → Up listed i := by
  intro i
  induction i using Nat.strongRecOn with
  | _ i ih =>
    intro hi
    cases hu : listed.getD i true with
    | true =>
      rw [Array.getD_eq_getD_getElem?, Array.getElem?_eq_getElem (by omega)] at hu
      unfold Up
      rw [Array.getElem?_eq_getElem (by omega)]
      simpa using hu
    | false =>
      have hmem : i ∈ Region.ready .any ops listed := by
        refine mem_ready.2 ⟨hu, ops[i], Array.getElem?_eq_getElem hi, fun e he hb => ?_⟩
        have hd : e.on ∈ odeps ops[i] := List.mem_filterMap.2 ⟨e, by simpa using he, by rw [if_pos hb]⟩
        have hlt := hok.dep i _ (Array.getElem?_eq_getElem hi) e.on hd
        have := ih e.on hlt (by omega)
        unfold Up at this
        rw [Array.getD_eq_getD_getElem?, this]; rfl
      rw [hr] at hmem
      cases hmem

theorem ready_nil {listed : Array Bool} (h : cntF listed.toList = 0) : Region.ready .any ops listed = [] := by
  cases hr : Region.ready .any ops listed with
  | nil => rfl
  | cons i l =>
    obtain ⟨h1, _⟩ := ready_deps (ops := ops) (listed := listed) (i := i) (by rw [hr]; exact List.mem_cons_self ..)
    obtain ⟨_, _, h2⟩ := not_up h1
    have := cntF_zero h i false (by rw [Array.getElem?_toList]; exact h2)
    cases this

theorem cnt_step {listed : Array Bool} {i fuel : Nat} (h : listed[i]? = some false) (hc : cntF listed.toList ≤ fuel + 1) : cntF (listed.setIfInBounds i true).toList ≤ fuel := by
  rw [Array.toList_setIfInBounds]
  have := cntF_set listed.toList i (by rw [Array.getElem?_toList]; exact h)
  omega

/-! ### Variables that the abstract state comes to know -/

theorem RR.adopt {K : KW} {S : AS} {w : World} (h : RR K S w) {r : Nat} {z : Array Value} {T : TypeId} {cs : List AV} (hr : w.heap[r]? = some (.cells z T (0, 0))) (hcs : ∀ K, BoxR K cs z) (hm : ¬ K.mut r) (hp : K.pub r = []) :
    RR { K with box := K.box ++ [r] } { S with box := S.box ++ [cs] } w := by
  have hle : K.le { K with box := K.box ++ [r] } :=
    ⟨fun b r hb => by simp only; rw [List.getElem?_append_left (List.getElem?_eq_some_iff.1 hb).1]; exact hb, fun _ _ _ _ _ h => ⟨_, _, _, h, .inr ⟨rfl, rfl, rfl⟩⟩, fun _ _ h => h, fun _ _ _ h => h⟩
  have hm1 : r ∉ K.box := fun hh => hm (.inl hh)
  have hm2 : r ∉ K.own.map (·.1) := fun hh => hm (.inr (.inl hh))
  refine ⟨by simp [h.nbox], h.nown, h.nlp, ?_, ?_, ?_, h.pub, h.own, ?_, h.ownnd, fun l L r h1 h2 => let ⟨lo, h3, h4⟩ := h.lp l L r h1 h2; ⟨lo, h3, h4.mono hle⟩, h.lpnd⟩
  · intro b cs' q h1 h2
    simp only at h1 h2
    by_cases hb : b < S.box.length
    · rw [List.getElem?_append_left hb] at h1
      rw [List.getElem?_append_left (h.nbox ▸ hb)] at h2
      obtain ⟨c, t, h3, h4⟩ := h.box b cs' q h1 h2
      exact ⟨c, t, h3, h4.mono hle⟩
    · rw [List.getElem?_append_right (by omega)] at h1
      rw [List.getElem?_append_right (by rw [h.nbox]; omega), h.nbox] at h2
      have hb0 : b - S.box.length = 0 := by
        have := (List.getElem?_eq_some_iff.1 h1).1
        simp at this; omega
      rw [hb0] at h1 h2
      simp at h1 h2
      subst h1; subst h2
      exact ⟨z, T, hr, hcs _⟩
  · show (K.box ++ [r]).Nodup
    rw [List.nodup_append]
    refine ⟨h.boxnd, by simp, ?_⟩
    intro a ha' b hb
    simp at hb
    subst hb
    intro e; subst e
    exact hm1 ha'
  · intro q hq
    simp only [List.mem_append, List.mem_singleton] at hq
    rcases hq with hq | rfl
    · exact h.boxpub q hq
    · exact hp
  · intro t B en m e h1 hB
    simp only [List.mem_append, List.mem_singleton] at hB
    rcases hB with hB | rfl
    · exact h.ownbox t B en m e h1 hB
    · exact hm2 (List.mem_map.2 ⟨_, List.mem_of_getElem? h1, rfl⟩)

theorem RR.adopts {w : World} : ∀ (locs : List Nat) (css : List (List AV)) (K : KW) (S : AS), RR K S w → locs.length = css.length → locs.Nodup →
    (∀ (m r : Nat) cs, locs[m]? = some r → css[m]? = some cs → (∃ z T, w.heap[r]? = some (.cells z T (0, 0)) ∧ ∀ K, BoxR K cs z) ∧ ¬ K.mut r ∧ K.pub r = []) → RR { K with box := K.box ++ locs } (S.pushes css) w
  | [], [], K, S, h, _, _, _ => by simpa [AS.pushes] using h
  | [], _ :: _, _, _, _, hl, _, _ => by simp at hl
  | _ :: _, [], _, _, _, hl, _, _ => by simp at hl
  | r :: locs, cs :: css, K, S, h, hl, hn, hf => by
    obtain ⟨⟨z, T, h1, h2⟩, h3, h4⟩ := hf 0 r cs rfl rfl
    obtain ⟨hn1, hn2⟩ := List.nodup_cons.1 hn
    have := RR.adopts locs css _ _ (h.adopt h1 h2 h3 h4) (by simpa using hl) hn2 (fun m r' cs' hm1 hm2 => by
      obtain ⟨q1, q2, q3⟩ := hf (m + 1) r' cs' (by simpa using hm1) (by simpa using hm2)
      refine ⟨q1, ?_, q3⟩
      intro hm
      rcases hm with hm | hm | hm
      · simp only [List.mem_append, List.mem_singleton] at hm
        rcases hm with hm | rfl
        · exact q2 (.inl hm)
        · exact hn1 (List.mem_of_getElem? hm1)
      · exact q2 (.inr (.inl hm))
      · exact q2 (.inr (.inr hm)))
    simpa [AS.pushes] using this

/-! ### One operation -/

theorem AOp.run {rd : Option Nat} {o : Oper} {tt : List AV} {S : AS} {Kp : AV → AS → Prop} {K : KW} {a : Act} {w : World} {next : Act → World → Prop} {Q : Exit → Act → World → Prop} (h : AOp P o tt S Kp) (h1 : TRo K o tt a) (h2 : RR K S w) (h3 : RoundOk rd w)
    (hn : ∀ v S' K' rv w', Kp v S' → VR K' v rv → RR K' S' w' → Ext K w K' w' → next (a.put o.dst rv) w') : o.wpIn (FR rd) 0 P a w next Q := by
  refine wpIn_of_res h.1 ?_
  have hr := h.2 rd K a w h1 h2 h3
  generalize (execOp a.eval o).run P w = r at hr
  unfold resOk at hr ⊢
  split at hr
  · obtain ⟨v, S', K', q1, q2, q3, q4⟩ := hr; exact hn v S' K' _ _ q1 q2 q3 q4
  · obtain ⟨v, S', K', q1, q2, q3, q4⟩ := hr; exact hn v S' K' _ _ q1 q2 q3 q4
  · refine hr.mono ?_
    rintro e w'' ⟨rv, rfl, v, S', K', q1, q2, q3, q4⟩
    exact ⟨rv, rfl, hn v S' K' _ _ q1 q2 q3 q4⟩
  · refine hr.mono ?_
    rintro e w'' ⟨rv, rfl, v, S', K', q1, q2, q3, q4⟩
    exact ⟨rv, rfl, hn v S' K' _ _ q1 q2 q3 q4⟩
  · exact hr.elim

/-- The blocks of the variables that the abstract state does not know yet. -/
structure Prv (P : Program) (ops : Array Oper) (K : KW) (w0 w : World) (E : Nat → Prop) (p : Nat) (loc : Nat → Nat) : Prop where
  row : ∀ (j : Nat), E j → p ≤ j → ∀ o, ops[j]? = some o → isA o = true → (∃ T cs z, o.op = .alloc T ∧ azero P T = some cs ∧ w.heap[loc j]? = some (.cells z T (0, 0)) ∧ ∀ K, BoxR K cs z) ∧ ¬ K.mut (loc j) ∧ K.pub (loc j) = [] ∧ w0.heap.size ≤ loc j
  inj : ∀ (j j' : Nat), E j → E j' → Pv ops p j → Pv ops p j' → loc j = loc j' → j = j'

theorem Prv.ext {K K' : KW} {w0 w w' : World} {E : Nat → Prop} {p : Nat} {loc : Nat → Nat} (h : Prv P ops K w0 w E p loc) (he : Ext K w K' w') : Prv P ops K' w0 w' E p loc := by
  refine ⟨fun j hj hp o ho ha => ?_, h.inj⟩
  obtain ⟨⟨T, cs, z, q1, q2, q3, q4⟩, q5, q6, q7⟩ := h.row j hj hp o ho ha
  have hlt := lt_heap q3
  exact ⟨⟨T, cs, z, q1, q2, (he.frame _ hlt q5).trans q3, q4⟩, fun hm => q5 (he.newmut _ hlt hm), (he.pubf _ hlt q5).trans q6, q7⟩

/-- All variables up to q have come up: the abstract state comes to know them. -/
theorem commit {ix : Oper → Bool} {t : List AV} {S : AS} {v : Nat → AV} {p q : Nat} {al : List Nat} {pa : List (List AV)} {K0 K : KW} {w0 w : World} {E : Nat → Prop} {loc : Nat → Nat} {a : Act}
    (hs : Sg P ops ix t S v p q al pa) (hup : ∀ (j : Nat), p ≤ j → j < q → ∀ o, ops[j]? = some o → isA o = true → E j) (h1 : TRP K ops t v E p loc a) (h2 : RR K S w) (h5 : Ext K0 w0 K w) (hp : Prv P ops K w0 w E p loc) :
    ∃ K1, RR K1 (S.pushes pa) w ∧ TRP K1 ops t v E q loc a ∧ Ext K0 w0 K1 w ∧ Prv P ops K1 w0 w E q loc := by
  have hal : ∀ (m r : Nat), (al.map loc)[m]? = some r → ∃ j, al[m]? = some j ∧ loc j = r ∧ E j ∧ Pv ops p j ∧ j < q := by
    intro m r hm
    simp only [List.getElem?_map, Option.map_eq_some_iff] at hm
    obtain ⟨j, hj, rfl⟩ := hm
    obtain ⟨g1, g2, o, T, cs, g3, g4, g5⟩ := hs.alc m j hj
    exact ⟨j, hj, rfl, hup j g1 g2 o g3 g4, ⟨g1, o, g3, g4⟩, g2⟩
  have hR : RR { K with box := K.box ++ al.map loc } (S.pushes pa) w := by
    refine RR.adopts _ _ _ _ h2 (by simp [hs.len]) ?_ ?_
    · refine List.pairwise_map.2 (List.Pairwise.imp_of_mem (R := (· ≠ ·)) ?_ hs.nodup)
      intro x y hx hy hne e
      refine hne ?_
      obtain ⟨m, hm⟩ := List.mem_iff_getElem?.1 hx
      obtain ⟨m', hm'⟩ := List.mem_iff_getElem?.1 hy
      obtain ⟨j, e1, e2, e3, e4, _⟩ := hal m (loc x) (by simp [hm])
      obtain ⟨j', e1', e2', e3', e4', _⟩ := hal m' (loc y) (by simp [hm'])
      rw [hm] at e1; cases e1
      rw [hm'] at e1'; cases e1'
      exact hp.inj _ _ e3 e3' e4 e4' e
    · intro m r cs hm hc
      obtain ⟨j, e1, rfl, e3, ⟨e4, o, ho, ha⟩, _⟩ := hal m r hm
      obtain ⟨⟨T, cs', z, q1, q2, q3, q4⟩, q5, q6, q7⟩ := hp.row j e3 e4 o ho ha
      obtain ⟨_, _, o', T', cs'', g3, g4, g5, g6, g7, g8⟩ := hs.alc m j e1
      rw [ho] at g3; cases g3
      rw [q1] at g5; cases g5
      rw [q2] at g6; cases g6
      rw [hc] at g7; cases g7
      exact ⟨⟨z, T, q3, q4⟩, q5, q6⟩
  have hle : K.le { K with box := K.box ++ al.map loc } :=
    ⟨fun b r hb => by simp only; rw [List.getElem?_append_left (List.getElem?_eq_some_iff.1 hb).1]; exact hb, fun _ _ _ _ _ h => ⟨_, _, _, h, .inr ⟨rfl, rfl, rfl⟩⟩, fun _ _ h => h, fun _ _ _ h => h⟩
  have hmut : ∀ r, KW.mut { K with box := K.box ++ al.map loc } r → K.mut r ∨ ∃ j, loc j = r ∧ E j ∧ Pv ops p j ∧ j < q := by
    intro r hm
    rcases hm with hm | hm | hm
    · simp only [List.mem_append] at hm
      rcases hm with hm | hm
      · exact .inl (.inl hm)
      · obtain ⟨m, hm⟩ := List.mem_iff_getElem?.1 hm
        obtain ⟨j, _, e2, e3, e4, e5⟩ := hal m r hm
        exact .inr ⟨j, e2, e3, e4, e5⟩
    · exact .inl (.inr (.inl hm))
    · exact .inl (.inr (.inr hm))
  refine ⟨_, hR, ⟨h1.size, ?_, ?_, fun s r hr hno u hu => (h1.old s r hr hno u hu).mono hle⟩, ⟨h5.le.trans hle, h5.os, h5.tape, h5.output, h5.size, h5.frame, ?_, h5.loops, h5.defs, h5.pubf⟩, ⟨?_, ?_⟩⟩
  · intro s r hr j hj hd hnp
    by_cases hpj : Pv ops p j
    · obtain ⟨e4, o, ho, ha⟩ := hpj
      have hjq : j < q := by
        rcases Nat.lt_or_ge j q with hh | hh
        · exact hh
        · exact absurd ⟨hh, o, ho, ha⟩ hnp
      have hr' := h1.priv s r hr j hj hd ⟨e4, o, ho, ha⟩
      subst hr'
      obtain ⟨m, hm⟩ := List.mem_iff_getElem?.1 (hs.all j e4 hjq o ho ha)
      obtain ⟨_, _, o', T', cs'', g3, g4, g5, g6, g7, g8⟩ := hs.alc m j hm
      rw [g8]
      refine .ptr ?_
      show (K.box ++ al.map loc)[S.box.length + m]? = some (loc j)
      rw [← h2.nbox, List.getElem?_append_right (by omega)]
      simp [hm]
    · exact (h1.done s r hr j hj hd hpj).mono hle
  · intro s r hr j hj hd hpj
    exact h1.priv s r hr j hj hd ⟨by have := hs.le; have := hpj.1; omega, hpj.2⟩
  · intro r hr hm
    rcases hmut r hm with hm | ⟨j, rfl, e3, ⟨e4, o, ho, ha⟩, _⟩
    · exact h5.newmut r hr hm
    · have := (hp.row j e3 e4 o ho ha).2.2.2
      omega
  · intro j hj hqj o ho ha
    have hpj : p ≤ j := by have := hs.le; omega
    obtain ⟨q1, q2, q3, q4⟩ := hp.row j hj hpj o ho ha
    refine ⟨q1, fun hm => ?_, q3, q4⟩
    rcases hmut _ hm with hm | ⟨j', e2, e3, e4, e5⟩
    · exact q2 hm
    · have := hp.inj j' j e3 hj e4 ⟨hpj, o, ho, ha⟩ e2
      omega
  · intro j j' hj hj' hp1 hp2 e
    exact hp.inj j j' hj hj' ⟨by have := hs.le; have := hp1.1; omega, hp1.2⟩ ⟨by have := hs.le; have := hp2.1; omega, hp2.2⟩ e

theorem run_allocA {o : Oper} {T : TypeId} {cs : List AV} (ho : o.op = .alloc T) (hz : azero P T = some cs) (a : Act) (w : World) :
    ∃ z : Array Value, (execOp a.eval o).run P w = .ok (.value (.pointer (some ⟨w.heap.size, 0, none⟩))) (w.alloc (.cells z T)) ∧ ∀ K, BoxR K cs z := by
  obtain ⟨z, hz1, hz2⟩ := azero_run hz w
  exact ⟨z.cells, by simp [execOp, ho, Instr.alloc, hz1, newVar, newRow], hz2⟩

/-- The variables that are laid: of what types. -/
def allocOk (P : Program) (ops : Array Oper) : Bool := ops.toList.all fun o => match o.op with
  | .alloc T => (azero P T).isSome
  | _ => true

theorem allocOk_spec (h : allocOk P ops = true) {i : Nat} {o : Oper} (ho : ops[i]? = some o) (ha : isA o = true) : ∃ T cs, o.op = .alloc T ∧ azero P T = some cs := by
  simp only [allocOk, List.all_eq_true] at h
  have := h o (by simpa using Array.mem_of_getElem? ho)
  unfold isA at ha
  split at ha
  · rename_i T hT
    rw [hT] at this
    obtain ⟨cs, hcs⟩ := Option.isSome_iff_exists.1 this
    exact ⟨T, cs, hT, hcs⟩
  · cases ha

theorem AWg_any {ix : Oper → Bool} (hok : DrawOk ops ix) (hal : allocOk P ops = true) {Q : Exit → List AV → AS → Prop} {t : List AV} {rd : Option Nat} {B : Nat} {K0 : KW} {w0 : World} :
    ∀ (fuel : Nat) (listed : Array Bool) (p q : Nat) (v : Nat → AV) (late : Late) (pa : List (List AV)) (al : List Nat) (S : AS) (K : KW) (loc : Nat → Nat) (a : Act) (w : World),
    listed.size = ops.size → (∀ (k : Nat), Up listed k → ∀ o', ops[k]? = some o' → ∀ d ∈ odeps o', Up listed d) → cntF listed.toList ≤ fuel →
    Sg P ops ix t S v p q al pa → LateHas ops ix t late v q → EndW P ops ix (Q .normal) q late pa (TT ops t v q) S →
    (∀ (i : Nat) o, ops[i]? = some o → isX ix o = true → (Up listed i ↔ i < p)) → (∀ (i : Nat) o, ops[i]? = some o → isA o = true → i < p → Up listed i) → (∀ (i : Nat), Up listed i → i < q ∨ ∃ o, ops[i]? = some o ∧ isA o = true) →
    (∀ (i : Nat), i < q → ¬ Up listed i → ∀ o, ops[i]? = some o → isA o = false → isX ix o = false → DStep P ops t S v i) →
    TRP K ops t v (Up listed) p loc a → RR K S w → RoundOk rd w → Marks B a.defers w → Ext K0 w0 K w → Prv P ops K w0 w (Up listed) p loc →
    wpAnyIn (FR rd) 0 P .any ops (PostR Q B K0 w0) fuel listed a w := by
  intro fuel
  induction fuel with
  | zero =>
    intro listed p q v late pa al S K loc a w hs hcl hc hsg hlh hend hX hA hq hdet h1 h2 h3 h4 h5 hpv
    have hr := ready_nil (ops := ops) (listed := listed) (by omega)
    refine ⟨hr, ?_⟩
    have hall := all_up hok hs hr
    rcases hend with ⟨hqn, hc⟩ | ⟨o, ho, hx, _⟩
    · obtain ⟨K1, r1, r2, r3, r4⟩ := commit hsg (fun j _ hj o ho _ => hall j (by omega)) h1 h2 h5 hpv
      subst hqn
      exact ⟨_, _, K1, hc, r2.all hok (fun j => ⟨fun hj => by
        unfold Up at hj
        have := (Array.getElem?_eq_some_iff.1 hj).1
        omega, fun hj => hall j hj⟩), r1, r3, h4⟩
    · have hlt := (Array.getElem?_eq_some_iff.1 ho).1
      have := (hX q o ho hx).1 (hall q hlt)
      have := hsg.le
      omega
  | succ fuel ih =>
    intro listed p q v late pa al S K loc a w hs hcl hc hsg hlh hend hX hA hq hdet h1 h2 h3 h4 h5 hpv
    refine ⟨fun hr => ?_, fun i hi => ?_⟩
    · have hall := all_up hok hs hr
      rcases hend with ⟨hqn, hc⟩ | ⟨o, ho, hx, _⟩
      · obtain ⟨K1, r1, r2, r3, r4⟩ := commit hsg (fun j _ hj o ho _ => hall j (by omega)) h1 h2 h5 hpv
        subst hqn
        exact ⟨_, _, K1, hc, r2.all hok (fun j => ⟨fun hj => by
          unfold Up at hj
          have := (Array.getElem?_eq_some_iff.1 hj).1
          omega, fun hj => hall j hj⟩), r1, r3, h4⟩
      · have hlt := (Array.getElem?_eq_some_iff.1 ho).1
        have := (hX q o ho hx).1 (hall q hlt)
        have := hsg.le
        omega
    · obtain ⟨hu, o, ho, hd⟩ := ready_deps hi
      obtain ⟨hil', hnu, hf⟩ := not_up hu
      have hil : i < ops.size := (Array.getElem?_eq_some_iff.1 ho).1
      have hs' : (listed.setIfInBounds i true).size = ops.size := by simp [hs]
      have hup' : ∀ j, Up (listed.setIfInBounds i true) j ↔ (j = i ∨ Up listed j) := fun j => up_set hil'
      have hcl' : ∀ (k : Nat), Up (listed.setIfInBounds i true) k → ∀ o', ops[k]? = some o' → ∀ d ∈ odeps o', Up (listed.setIfInBounds i true) d := by
        intro k hk o' ho' d hdd
        rcases (hup' k).1 hk with rfl | hk
        · rw [ho] at ho'; cases ho'
          exact (hup' d).2 (.inr (hd d hdd))
        · exact (hup' d).2 (.inr (hcl k hk o' ho' d hdd))
      have hc' := cnt_step hf hc
      have hdst : o.dst = dstOf ops i := by simp [dstOf, ho]
      unfold wpOpIn
      simp only [ho]
      cases ha : isA o with
      | true =>
        -- a variable is laid
        have hpi : p ≤ i := by
          rcases Nat.lt_or_ge i p with hh | hh
          · exact absurd (hA i o ho ha hh) hnu
          · exact hh
        have hw : Region.wanted o (yielded ops a.tmps) = true := by
          unfold isA at ha
          split at ha
          · simp only [Bool.and_eq_true] at ha
            unfold Region.wanted
            cases hg : o.guard with
            | none => rfl
            | some q => rw [hg] at ha; simp at ha
          · cases ha
        rw [if_pos hw]
        -- which type
        obtain ⟨T, cs, hop, hz⟩ := allocOk_spec hal ho ha
        obtain ⟨z, hrun, hbz⟩ := run_allocA (P := P) hop hz a w
        refine wpIn_of_res (by rw [hop]; exact fun _ h => by cases h) ?_
        rw [hrun]
        have hea := Ext.alloc K w (.cells z T)
        refine ih _ p q v late pa al S K (fun j => if j = i then w.heap.size else loc j) _ _ hs' hcl' hc' hsg hlh hend ?_ ?_ ?_ ?_ ?_ (h2.alloc _) (h3.ext hea) (by rw [put_defers']; exact h4.ext hea) (h5.trans hea) ?_
        · intro j o' ho' hx
          have hne : j ≠ i := fun e => by subst e; rw [ho] at ho'; cases ho'; rw [isA_not_X ha] at hx; cases hx
          rw [hup' j]
          exact ⟨fun h => (hX j o' ho' hx).1 (h.resolve_left hne), fun h => .inr ((hX j o' ho' hx).2 h)⟩
        · exact fun j o' ho' ha' hj => (hup' j).2 (.inr (hA j o' ho' ha' hj))
        · intro j hj
          rcases (hup' j).1 hj with rfl | hj
          · exact .inr ⟨o, ho, ha⟩
          · exact hq j hj
        · exact fun j hj hnj => hdet j hj (fun h => hnj ((hup' j).2 (.inr h)))
        · rw [hdst]
          exact h1.put hok (fun hh => absurd ⟨hpi, o, ho, ha⟩ hh) (fun _ => by simp) (fun j hj _ => by
            have hne : j ≠ i := fun e => hnu (e ▸ hj)
            simp [hne]) hup' hnu
        · have hpe := hpv.ext hea
          have hnew : ∀ r, K.mut r ∨ K.pub r ≠ [] → r ≠ w.heap.size := by
            intro r hr e
            subst e
            rcases hr with hr | hr
            · exact Nat.lt_irrefl _ (h2.mut_lt hr)
            · exact hr h2.pub_size
          refine ⟨fun j hj hpj o' ho' ha' => ?_, fun j j' hj hj' hp1 hp2 e => ?_⟩
          · by_cases hji : j = i
            · subst hji
              rw [ho] at ho'; cases ho'
              simp only [if_true]
              exact ⟨⟨T, cs, z, hop, hz, heap_alloc_new w _, hbz⟩, fun hm => hnew _ (.inl hm) rfl, h2.pub_size, h5.size⟩
            · simp only [hji, if_false]
              exact hpe.row j (((hup' j).1 hj).resolve_left hji) hpj o' ho' ha'
          · have hlt : ∀ x, Up listed x → Pv ops p x → loc x < w.heap.size := fun x hx ⟨g1, ox, g2, g3⟩ => by
              obtain ⟨⟨_, _, _, _, _, q3, _⟩, _⟩ := hpv.row x hx g1 ox g2 g3
              exact lt_heap q3
            by_cases e1 : j = i
            · by_cases e2 : j' = i
              · rw [e1, e2]
              · have := hlt j' (((hup' j').1 hj').resolve_left e2) hp2
                simp [e1, e2] at e; omega
            · by_cases e2 : j' = i
              · have := hlt j (((hup' j).1 hj).resolve_left e1) hp1
                simp [e1, e2] at e; omega
              · simp only [e1, e2, if_false] at e
                exact hpv.inj j j' (((hup' j).1 hj).resolve_left e1) (((hup' j').1 hj').resolve_left e2) hp1 hp2 e
      | false =>
        cases hx : isX ix o with
        | true =>
          -- the state turns
          have hiq : i = q := by
            have hpi : p ≤ i := by
              rcases Nat.lt_or_ge i p with hh | hh
              · exact absurd ((hX i o ho hx).2 hh) hnu
              · exact hh
            have hge : q ≤ i := by
              rcases Nat.lt_or_ge i q with hh | hh
              · have := hsg.noX i hpi hh o ho; rw [hx] at this; cases this
              · exact hh
            rcases Nat.lt_or_ge q i with hh | hh
            · rcases hend with ⟨hqn, _⟩ | ⟨oq, hoq, hxq, _⟩
              · omega
              · have := hok.chain i o ho hx q oq hoq hh (.inl hxq) (Up listed) hcl hd
                have := (hX q oq hoq hxq).1 this
                have := hsg.le
                omega
            · omega
          subst hiq
          have hupA : ∀ (j : Nat), p ≤ j → j < i → ∀ o', ops[j]? = some o' → isA o' = true → Up listed j := fun j _ hj o' ho' ha' => hok.chain i o ho hx j o' ho' hj (.inr ha') (Up listed) hcl hd
          obtain ⟨K1, r1, r2, r3, r4⟩ := commit hsg hupA h1 h2 h5 hpv
          have hnp : ∀ s ∈ o.looksAt ops, ∀ j, j < i → dstOf ops j = some s → ¬ Pv ops i j := fun s _ j hj _ hp => by have := hp.1; omega
          have htro := r2.tro hok hcl ho hnu hd hnp
          have hwant := r2.wanted hok hcl ho hnu hd hnp
          rw [hwant]
          -- what comes behind
          have next : ∀ (x : AV) (S' : AS) (K' : KW) (rv : Value) (w' : World), LateOk P late (waits ops i) S' → AWg P ops ix (Q .normal) (i + 1) (ops.toList.drop (i + 1)) late [] (putA (TT ops t v i) o.dst x) S' → VR K' x rv → RR K' S' w' → Ext K1 w K' w' →
              wpAnyIn (FR rd) 0 P .any ops (PostR Q B K0 w0) fuel (listed.setIfInBounds i true) (a.put o.dst rv) w' := by
            intro x S' K' rv w' hlate hrest hv hr' he
            let v1 : Nat → AV := fun j => if j = i then x else v j
            have hv1 : ∀ j, j < i → v1 j = v j := fun j hj => by simp only [v1]; rw [if_neg (by omega)]
            have hvi : v1 i = x := by simp [v1]
            have hTi : TT ops t v1 i = TT ops t v i := TT_congr i hv1
            have hlh1 : LateHas ops ix t late v1 (i + 1) := by
              intro j hj o' ho' ha' hx' hw'
              by_cases e : j = i
              · subst e; rw [ho] at ho'; cases ho'; rw [hx] at hx'; cases hx'
              · exact (hlh.ext hv1) j (by omega) o' ho' ha' hx' hw'
            obtain ⟨q', v', late', pa', al', g1, g2, g3, g4, g5⟩ := AWg_seg (P := P) (ops := ops) (t := t) (S := S') (ix := ix) (cont := Q .normal) (p := i + 1) (ops.toList.drop (i + 1)) (i + 1) v1 late [] [] rfl hil (Sg.nil hil) hlh1 (by
              simp only [TT]; rw [hTi, ← hdst, hvi]; exact hrest)
            have hv' : ∀ j, j < i → v' j = v j := fun j hj => (g2 j (by omega)).trans (hv1 j hj)
            have hv'i : v' i = x := (g2 i (by omega)).trans hvi
            have hupA' : ∀ (j : Nat) o', ops[j]? = some o' → isA o' = true → j < i → Up listed j := fun j o' ho' ha' hj => hok.chain i o ho hx j o' ho' hj (.inr ha') (Up listed) hcl hd
            have hee : Ext K0 w0 K' w' := r3.trans he
            refine ih _ (i + 1) q' v' late' pa' al' S' K' loc _ _ hs' hcl' hc' g3 g4 g5 ?_ ?_ ?_ ?_ ?_ hr' (h3.ext ⟨he.le, he.os, he.tape, he.output, he.size, he.frame, he.newmut, he.loops, he.defs, he.pubf⟩) (by rw [put_defers']; exact h4.ext he) hee ?_
            · intro j o' ho' hx'
              rw [hup' j]
              constructor
              · rintro (rfl | hj)
                · omega
                · have := (hX j o' ho' hx').1 hj
                  have := hsg.le
                  omega
              · intro hj
                by_cases e : j = i
                · exact .inl e
                · refine .inr ?_
                  exact hok.chain i o ho hx j o' ho' (by omega) (.inl hx') (Up listed) hcl hd
            · intro j o' ho' ha' hj
              by_cases e : j = i
              · exact (hup' j).2 (.inl e)
              · exact (hup' j).2 (.inr (hupA' j o' ho' ha' (by omega)))
            · intro j hj
              rcases (hup' j).1 hj with rfl | hj
              · exact .inl (by omega)
              · rcases hq j hj with hh | hh
                · exact .inl (by omega)
                · exact .inr hh
            · intro j hj hnj o' ho' ha' hx'
              have hji : j ≠ i := fun e => hnj ((hup' j).2 (.inl e))
              have hnj' : ¬ Up listed j := fun h => hnj ((hup' j).2 (.inr h))
              rcases Nat.lt_or_ge j i with hlt | hge
              · have hTj : TT ops t v' j = TT ops t v j := TT_congr j (fun k hk => hv' k (by omega))
                intro o'' ho''
                rw [ho'] at ho''; cases ho''
                rw [hTj, hv' j hlt]
                rcases hdet j hlt hnj' o' ho' ha' hx' o' ho' with ⟨w1, _⟩ | ⟨w1, w2⟩
                · refine .inl ⟨w1, ?_⟩
                  refine hlate _ (hlh j hlt o' ho' ha' hx' w1) ?_
                  cases hwt : waits ops i j with
                  | false => rfl
                  | true => exact absurd (mask_use ho hwt (Up listed) hcl hd) hnj'
                · exact .inr ⟨w1, w2⟩
              · exact g3.det j (by omega) hj o' ho' ha'
            · rw [hdst]
              have hb : TRP K' ops t v' (Up listed) i loc a := (r2.mono he.le).val (fun j hj hp => by
                rcases hq j hj with hh | ⟨oj, hoj, haj⟩
                · exact hv' j hh
                · rcases Nat.lt_or_ge j i with h | h
                  · exact hv' j h
                  · exact absurd ⟨h, oj, hoj, haj⟩ hp)
              have hpi : ∀ j, Pv ops (i + 1) j ↔ Pv ops i j := by
                intro j
                constructor
                · rintro ⟨q1, q2⟩; exact ⟨by omega, q2⟩
                · rintro ⟨q1, oj, q2, q3⟩
                  refine ⟨?_, oj, q2, q3⟩
                  by_cases e : j = i
                  · subst e; rw [ho] at q2; cases q2; rw [ha] at q3; cases q3
                  · omega
              have hb2 : TRP K' ops t v' (Up listed) (i + 1) loc a := ⟨hb.size, fun s r hr j hj hd hp => hb.done s r hr j hj hd (fun h => hp ((hpi j).2 h)), fun s r hr j hj hd hp => hb.priv s r hr j hj hd ((hpi j).1 hp), hb.old⟩
              exact hb2.put hok (fun _ => by rw [hv'i]; exact hv) (fun hh => by have := hh.1; omega) (fun _ _ _ => rfl) hup' hnu
            · have hpe := r4.ext he
              refine ⟨fun j hj hpj o' ho' ha' => ?_, fun j j' hj hj' hp1 hp2 e => ?_⟩
              · have hji : j ≠ i := by omega
                exact hpe.row j (((hup' j).1 hj).resolve_left hji) (by omega) o' ho' ha'
              · have e1 : j ≠ i := by have := hp1.1; omega
                have e2 : j' ≠ i := by have := hp2.1; omega
                exact hpe.inj j j' (((hup' j).1 hj).resolve_left e1) (((hup' j').1 hj').resolve_left e2) ⟨by have := hp1.1; omega, hp1.2⟩ ⟨by have := hp2.1; omega, hp2.2⟩ e
          rcases hend with ⟨hqn, _⟩ | ⟨oq, hoq, _, hcase⟩
          · omega
          · rw [ho] at hoq; cases hoq
            rcases hcase with ⟨hw, hop⟩ | ⟨hw, hl, hg⟩
            · rw [hw, if_pos rfl]
              exact hop.run htro r1 h3 (fun x S' K' rv w' hk hv hr' he => next x S' K' rv w' hk.1 hk.2 hv hr' he)
            · rw [hw, if_neg (by simp)]
              exact ⟨fun _ _ => trivial, next (.tup []) _ K1 Go.undef w hl hg (VR.undef K1) r1 (.refl _ _)⟩
        | false =>
          have hiq : i < q := by
            rcases Nat.lt_or_ge i q with hh | hh
            · exact hh
            · rcases hend with ⟨hqn, _⟩ | ⟨oq, hoq, hxq, _⟩
              · omega
              · by_cases e : q = i
                · subst e; rw [ho] at hoq; cases hoq; rw [hx] at hxq; cases hxq
                · have := hok.late i o ho ha q oq hoq (by omega) hxq (Up listed) hcl hd
                  have := (hX q oq hoq hxq).1 this
                  have := hsg.le
                  omega
          have hnp : ∀ s ∈ o.looksAt ops, ∀ j, j < i → dstOf ops j = some s → ¬ Pv ops p j := by
            rintro s hsl j hji hj ⟨g1, oj, g2, g3⟩
            obtain ⟨x, ox, hox, hxx, hjx, hxi⟩ := hok.fresh i o ho hx s hsl j oj g2 hj hji g3
            have hxp : x < p := by
              rcases Nat.lt_or_ge x p with hh | hh
              · exact hh
              · have := hsg.noX x hh (by omega) ox hox; rw [hxx] at this; cases this
            omega
          have htro := h1.tro hok hcl ho hnu hd hnp
          have hwant := h1.wanted hok hcl ho hnu hd hnp
          rw [hwant]
          have hnpi : ¬ Pv ops p i := fun ⟨_, oi, q2, q3⟩ => by rw [ho] at q2; cases q2; rw [ha] at q3; cases q3
          have next : ∀ (rv : Value) (K' : KW) (w' : World), VR K' (v i) rv → RR K' S w' → Ext K w K' w' → wpAnyIn (FR rd) 0 P .any ops (PostR Q B K0 w0) fuel (listed.setIfInBounds i true) (a.put o.dst rv) w' := by
            intro rv K' w' hv hr' he
            refine ih _ p q v late pa al S K' loc _ _ hs' hcl' hc' hsg hlh hend ?_ ?_ ?_ ?_ ?_ hr' (h3.ext he) (by rw [put_defers']; exact h4.ext he) (h5.trans he) ?_
            · intro j o' ho' hx'
              have hne : j ≠ i := fun e => by subst e; rw [ho] at ho'; cases ho'; rw [hx] at hx'; cases hx'
              rw [hup' j]
              exact ⟨fun h => (hX j o' ho' hx').1 (h.resolve_left hne), fun h => .inr ((hX j o' ho' hx').2 h)⟩
            · exact fun j o' ho' ha' hj => (hup' j).2 (.inr (hA j o' ho' ha' hj))
            · intro j hj
              rcases (hup' j).1 hj with rfl | hj
              · exact .inl hiq
              · exact hq j hj
            · exact fun j hj hnj => hdet j hj (fun h => hnj ((hup' j).2 (.inr h)))
            · rw [hdst]
              exact (h1.mono he.le).put hok (fun _ => hv) (fun hh => absurd hh hnpi) (fun _ _ _ => rfl) hup' hnu
            · have hpe := hpv.ext he
              refine ⟨fun j hj hpj o' ho' ha' => ?_, fun j j' hj hj' hp1 hp2 e => ?_⟩
              · have hji : j ≠ i := fun e => hnpi (e ▸ ⟨hpj, o', ho', ha'⟩)
                exact hpe.row j (((hup' j).1 hj).resolve_left hji) hpj o' ho' ha'
              · have e1 : j ≠ i := fun e => hnpi (e ▸ hp1)
                have e2 : j' ≠ i := fun e => hnpi (e ▸ hp2)
                exact hpe.inj j j' (((hup' j).1 hj).resolve_left e1) (((hup' j').1 hj').resolve_left e2) hp1 hp2 e
          rcases hdet i hiq hnu o ho ha hx o ho with ⟨hw, hdt⟩ | ⟨hw, hv⟩
          · rw [hw, if_pos rfl]
            exact hdt.run htro h2 h3 (fun x S' K' rv w' hk hv hr' he => by obtain ⟨rfl, rfl⟩ := hk; exact next rv K' w' hv hr' he)
          · rw [hw, if_neg (by simp)]
            exact ⟨fun _ _ => trivial, next Go.undef K w (by rw [hv]; exact VR.undef K) h2 (.refl _ _)⟩

theorem cnt_le (l : List Bool) : cntF l ≤ l.length := List.countP_le_length

/-- **A region that draws its order**, by one walk in the order of the text. -/
theorem AW.draw {ix : Oper → Bool} {id : Nat} {t : List AV} {S : AS} {Q : Exit → List AV → AS → Prop} (hm : P.follows .mixedOrders = true) (hok : drawOk ops ix = true) (hal : allocOk P ops = true)
    (h : AWg P ops ix (Q .normal) 0 ops.toList [] [] t S) : AW P (.region id ops true) Q t S := by
  intro rd B K a w h1 h2 h3 h4
  have hk := drawOk_spec hok
  refine wpIn_region_any hm ?_
  have hno : ∀ j, ¬ Up (Array.replicate ops.size false) j := fun j hj => by
    unfold Up at hj
    rw [Array.getElem?_replicate] at hj
    split at hj <;> simp at hj
  have hdr : Ext K w K { w with drawn := w.drawn + 1 } := Ext.drew K w
  obtain ⟨q, v, late, pa, al, _, _, g3, g4, g5⟩ := AWg_seg (P := P) (ops := ops) (t := t) (S := S) (ix := ix) (cont := Q .normal) (p := 0) ops.toList 0 (fun _ => .tup []) [] [] [] (by simp) (Nat.zero_le _) (Sg.nil (Nat.zero_le _)) (fun i hi => absurd hi (Nat.not_lt_zero _)) h
  exact AWg_any hk hal ops.size _ 0 q v late pa al S K (fun _ => 0) a _ (by simp) (fun k hk => absurd hk (hno k)) (by
      refine Nat.le_trans (cnt_le _) (by simp)) g3 g4 g5 (fun i o _ _ => ⟨fun h => absurd h (hno i), fun h => absurd h (Nat.not_lt_zero _)⟩) (fun i o _ _ h => absurd h (Nat.not_lt_zero _)) (fun i h => absurd h (hno i))
    (fun i hi _ o ho ha _ => g3.det i (Nat.zero_le _) hi o ho ha)
    ⟨h1.1, fun s r _ j hj => absurd hj (hno j), fun s r _ j hj => absurd hj (hno j), fun s r hr _ u hu => h1.2 s u r hu hr⟩ h2.drew (h3.ext hdr) (h4.ext hdr) hdr
    ⟨fun j hj => absurd hj (hno j), fun j _ hj => absurd hj (hno j)⟩

end
end Go.Proofs.Ytfjeopaaplnoaaa.Av
