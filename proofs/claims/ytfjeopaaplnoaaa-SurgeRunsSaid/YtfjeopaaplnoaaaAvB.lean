/-
  THE ABSTRACT STATE, how it stands to a world, and what becomes of both: new blocks, stores, published cells.
-/
import Derived.Test.YtfjeopaaplnoaaaAvA
namespace Go.Proofs.Ytfjeopaaplnoaaa.Av
open Go Go.RowKit
set_option linter.unusedSimpArgs false

inductive LSt where
  | ready
  | busy
  | done (c : Code)
  | over

/-- A range over a function that is on its way. -/
structure ALoop where
  st : LSt
  t : List AV
  params : Array Tmp
  assign : Code
  body : Code

structure AS where
  box : List (List AV)
  own : List Nat
  lp : List ALoop

def TR (K : KW) (t : List AV) (tmps : Array Value) : Prop :=
  t.length = tmps.size ∧ ∀ (i : Nat) (v : AV) (r : Value), t[i]? = some v → tmps[i]? = some r → VR K v r

theorem TR.mono {K K' : KW} {t : List AV} {tmps : Array Value} (h : TR K t tmps) (hle : K.le K') : TR K' t tmps :=
  ⟨h.1, fun i v r hv hr => (h.2 i v r hv hr).mono hle⟩

def LStR : LSt → Loop → Prop
  | .ready, lo => lo.state = .ready ∧ lo.pending = none
  | .busy, lo => lo.state = .busy
  | .done c, lo => lo.state = .done ∧ lo.pending = some c
  | .over, _ => True

def LR (K : KW) (L : ALoop) (lo : Loop) : Prop :=
  lo.params = L.params ∧ lo.assign = L.assign ∧ lo.body = L.body ∧ TR K L.t lo.tmps ∧ LStR L.st lo

theorem LR.mono {K K' : KW} {L : ALoop} {lo : Loop} (h : LR K L lo) (hle : K.le K') : LR K' L lo :=
  ⟨h.1, h.2.1, h.2.2.1, h.2.2.2.1.mono hle, h.2.2.2.2⟩

def BoxR (K : KW) (cs : List AV) (cells : Array Value) : Prop :=
  cs.length = cells.size ∧ (∀ (i : Nat) (c : AV), cs[i]? = some c → c.single = true) ∧ ∀ (i : Nat) (c : AV) (v : Value), cs[i]? = some c → cells[i]? = some v → VR K c v

theorem BoxR.mono {K K' : KW} {cs : List AV} {cells : Array Value} (h : BoxR K cs cells) (hle : K.le K') : BoxR K' cs cells :=
  ⟨h.1, h.2.1, fun i c v h1 h2 => (h.2.2 i c v h1 h2).mono hle⟩

/-- The abstract state and the world. -/
structure RR (K : KW) (S : AS) (w : World) : Prop where
  nbox : K.box.length = S.box.length
  nown : K.own.length = S.own.length
  nlp : K.lp.length = S.lp.length
  box : ∀ (b : Nat) (cs : List AV) (r : Nat), S.box[b]? = some cs → K.box[b]? = some r → ∃ cells T, w.heap[r]? = some (.cells cells T (0, 0)) ∧ BoxR K cs cells
  boxnd : K.box.Nodup
  boxpub : ∀ r ∈ K.box, K.pub r = []
  pub : ∀ B, K.pub B ≠ [] → ∃ cells T fr, w.heap[B]? = some (.cells cells T fr) ∧ K.pub B <+: cells.toList
  own : ∀ (t B en m : Nat) (e : TypeId), K.own[t]? = some (B, en, m, e) → S.own[t]? = some en ∧ (∃ cells, w.heap[B]? = some (.cells cells e (0, 0)) ∧ cells.size = m) ∧ (K.pub B).length = en
  ownbox : ∀ (t B en m : Nat) (e : TypeId), K.own[t]? = some (B, en, m, e) → B ∉ K.box
  ownnd : (K.own.map (·.1)).Nodup
  lp : ∀ (l : Nat) (L : ALoop) (r : Nat), S.lp[l]? = some L → K.lp[l]? = some r → ∃ lo, w.heap[r]? = some (.loop lo) ∧ LR K L lo
  lpnd : K.lp.Nodup

def KW.mut (K : KW) (r : Nat) : Prop := r ∈ K.box ∨ r ∈ K.own.map (·.1) ∨ r ∈ K.lp

/-- What a step may do to the world. -/
structure Ext (K : KW) (w : World) (K' : KW) (w' : World) : Prop where
  le : K.le K'
  os : w'.os = w.os
  tape : w'.tape = w.tape
  output : w'.output = w.output
  size : w.heap.size ≤ w'.heap.size
  frame : ∀ r : Nat, r < w.heap.size → ¬ K.mut r → w'.heap[r]? = w.heap[r]?
  newmut : ∀ r : Nat, r < w.heap.size → K'.mut r → K.mut r
  loops : ∀ (r : Nat) (lo : Loop), w.heap[r]? = some (.loop lo) → ∃ lo' : Loop, w'.heap[r]? = some (.loop lo') ∧ lo'.defers = lo.defers
  defs : ∀ (r : Nat) (d : Option (List Deferred)), w.heap[r]? = some (.deferred d) → w'.heap[r]? = some (.deferred d)
  pubf : ∀ r : Nat, r < w.heap.size → ¬ K.mut r → K'.pub r = K.pub r

theorem Ext.refl (K : KW) (w : World) : Ext K w K w :=
  ⟨.refl _, rfl, rfl, rfl, Nat.le_refl _, fun _ _ _ => rfl, fun _ _ h => h, fun _ lo h => ⟨lo, h, rfl⟩, fun _ _ h => h, fun _ _ _ => rfl⟩

theorem Ext.trans {K K1 K2 : KW} {w w1 w2 : World} (h : Ext K w K1 w1) (k : Ext K1 w1 K2 w2) : Ext K w K2 w2 where
  le := h.le.trans k.le
  os := k.os.trans h.os
  tape := k.tape.trans h.tape
  output := k.output.trans h.output
  size := Nat.le_trans h.size k.size
  frame r hr hm := (k.frame r (Nat.lt_of_lt_of_le hr h.size) (fun hm1 => hm (h.newmut r hr hm1))).trans (h.frame r hr hm)
  newmut r hr hm := h.newmut r hr (k.newmut r (Nat.lt_of_lt_of_le hr h.size) hm)
  loops r lo hl := by
    obtain ⟨lo1, h1, e1⟩ := h.loops r lo hl
    obtain ⟨lo2, h2, e2⟩ := k.loops r lo1 h1
    exact ⟨lo2, h2, e2.trans e1⟩
  defs r d hd := k.defs r d (h.defs r d hd)
  pubf r hr hm := (k.pubf r (Nat.lt_of_lt_of_le hr h.size) (fun hm1 => hm (h.newmut r hr hm1))).trans (h.pubf r hr hm)

theorem Ext.drew (K : KW) (w : World) : Ext K w K w.drew :=
  ⟨.refl _, rfl, rfl, rfl, Nat.le_refl _, fun _ _ _ => rfl, fun _ _ h => h, fun _ lo h => ⟨lo, h, rfl⟩, fun _ _ h => h, fun _ _ _ => rfl⟩

theorem RR.drew {K : KW} {S : AS} {w : World} (h : RR K S w) : RR K S w.drew := ⟨h.nbox, h.nown, h.nlp, h.box, h.boxnd, h.boxpub, h.pub, h.own, h.ownbox, h.ownnd, h.lp, h.lpnd⟩

section heap
variable {K : KW} {S : AS} {w : World}

theorem lt_heap {o : Obj} {r : Nat} (h : w.heap[r]? = some o) : r < w.heap.size := (Array.getElem?_eq_some_iff.1 h).1

theorem RR.box_lt (h : RR K S w) {r : Nat} (hr : r ∈ K.box) : r < w.heap.size := by
  obtain ⟨b, hb, rfl⟩ := List.mem_iff_getElem.1 hr
  have hb' : b < S.box.length := h.nbox ▸ hb
  obtain ⟨cells, T, h1, _⟩ := h.box b (S.box[b]) _ (List.getElem?_eq_getElem hb') (List.getElem?_eq_getElem hb)
  exact lt_heap h1

theorem RR.own_lt (h : RR K S w) {r : Nat} (hr : r ∈ K.own.map (·.1)) : r < w.heap.size := by
  obtain ⟨⟨B, en, m, e⟩, hm, rfl⟩ := List.mem_map.1 hr
  obtain ⟨t, ht, he⟩ := List.mem_iff_getElem.1 hm
  obtain ⟨_, ⟨cells, h1, _⟩, _⟩ := h.own t B en m e (by rw [List.getElem?_eq_getElem ht, he])
  exact lt_heap h1

theorem RR.lp_obj (h : RR K S w) {r : Nat} (hr : r ∈ K.lp) : ∃ lo, w.heap[r]? = some (.loop lo) := by
  obtain ⟨b, hb, rfl⟩ := List.mem_iff_getElem.1 hr
  have hb' : b < S.lp.length := h.nlp ▸ hb
  obtain ⟨lo, h1, _⟩ := h.lp b (S.lp[b]) _ (List.getElem?_eq_getElem hb') (List.getElem?_eq_getElem hb)
  exact ⟨lo, h1⟩

theorem RR.lp_lt (h : RR K S w) {r : Nat} (hr : r ∈ K.lp) : r < w.heap.size := by
  obtain ⟨lo, h1⟩ := h.lp_obj hr; exact lt_heap h1

theorem RR.mut_lt (h : RR K S w) {r : Nat} (hr : K.mut r) : r < w.heap.size := by
  rcases hr with hr | hr | hr
  · exact h.box_lt hr
  · exact h.own_lt hr
  · exact h.lp_lt hr

theorem RR.pub_lt (h : RR K S w) {B : Nat} (hB : K.pub B ≠ []) : B < w.heap.size := by
  obtain ⟨_, _, _, h1, _⟩ := h.pub B hB; exact lt_heap h1

theorem RR.pub_size (h : RR K S w) : K.pub w.heap.size = [] := by
  by_cases he : K.pub w.heap.size = []
  · exact he
  · exact absurd (h.pub_lt he) (Nat.lt_irrefl _)

/-- A published cell reads so. -/
theorem RR.cell (h : RR K S w) {B i : Nat} {v : Value} (hv : (K.pub B)[i]? = some v) : w.cell? ⟨B, i, none⟩ = some v := by
  have hne : K.pub B ≠ [] := by intro e; rw [e] at hv; simp at hv
  obtain ⟨cells, T, fr, h1, h2⟩ := h.pub B hne
  rw [cell_of_row w B i cells T fr h1]
  obtain ⟨s, hs⟩ := h2
  rw [← Array.getElem?_toList, ← hs, List.getElem?_append_left (List.getElem?_eq_some_iff.1 hv).1]
  exact hv

/-- A box's cell. -/
theorem RR.boxcell (h : RR K S w) {b i r : Nat} {cs : List AV} {c : AV} (hcs : S.box[b]? = some cs) (hr : K.box[b]? = some r) (hc : cs[i]? = some c) :
    ∃ v, w.cell? ⟨r, i, none⟩ = some v ∧ VR K c v ∧ c.single = true ∧ w.frozen? ⟨r, i, none⟩ = false := by
  obtain ⟨cells, T, h1, hl, hs, hv⟩ := h.box b cs r hcs hr
  have hi : i < cells.size := by rw [← hl]; exact (List.getElem?_eq_some_iff.1 hc).1
  refine ⟨cells[i], ?_, hv i c _ hc (Array.getElem?_eq_getElem hi), hs i c hc, frozen_of_row w r i cells T h1⟩
  rw [cell_of_row w r i cells T (0, 0) h1, Array.getElem?_eq_getElem hi]

end heap

/-! ### A new block -/

theorem alloc_old {w : World} {o : Obj} {r : Nat} (h : r < w.heap.size) : (w.alloc o).heap[r]? = w.heap[r]? := heap_alloc_old w o h

theorem alloc_some {w : World} {o o' : Obj} {r : Nat} (h : w.heap[r]? = some o') : (w.alloc o).heap[r]? = some o' := (alloc_old (lt_heap h)).trans h

/-- Whatever is new in the heap: the old state stays. -/
theorem RR.alloc {K : KW} {S : AS} {w : World} (h : RR K S w) (o : Obj) : RR K S (w.alloc o) where
  nbox := h.nbox
  nown := h.nown
  nlp := h.nlp
  box b cs r h1 h2 := let ⟨cells, T, h3, h4⟩ := h.box b cs r h1 h2; ⟨cells, T, alloc_some h3, h4⟩
  boxnd := h.boxnd
  boxpub := h.boxpub
  pub B hB := let ⟨cells, T, fr, h3, h4⟩ := h.pub B hB; ⟨cells, T, fr, alloc_some h3, h4⟩
  own t B en m e h1 := let ⟨h2, ⟨cells, h3, h4⟩, h5⟩ := h.own t B en m e h1; ⟨h2, ⟨cells, alloc_some h3, h4⟩, h5⟩
  ownbox := h.ownbox
  ownnd := h.ownnd
  lp l L r h1 h2 := let ⟨lo, h3, h4⟩ := h.lp l L r h1 h2; ⟨lo, alloc_some h3, h4⟩
  lpnd := h.lpnd

theorem Ext.alloc (K : KW) (w : World) (o : Obj) : Ext K w K (w.alloc o) :=
  ⟨.refl _, rfl, rfl, rfl, by simp, fun _ hr _ => alloc_old hr, fun _ _ h => h, fun _ lo h => ⟨lo, alloc_some h, rfl⟩, fun _ _ h => alloc_some h, fun _ _ _ => rfl⟩

def KW.addPub (K : KW) (r : Nat) (C : List Value) : KW := { K with pub := fun B => if B = r then C else K.pub B }

theorem KW.le_addPub {K : KW} {r : Nat} {C : List Value} (h : ∀ (i : Nat) (v : Value), (K.pub r)[i]? = some v → C[i]? = some v) : K.le (K.addPub r C) where
  box _ _ h := h
  own _ _ _ _ _ h := ⟨_, _, _, h, .inr ⟨rfl, rfl, rfl⟩⟩
  lp _ _ h := h
  pub B i v hv := by
    show (if B = r then C else K.pub B)[i]? = some v
    split
    · rename_i e; subst e; exact h i v hv
    · exact hv

/-- A block that is neither a box nor owned is published, or published further. -/
theorem RR.publish {K : KW} {S : AS} {w : World} (h : RR K S w) {r : Nat} {cells : Array Value} {T : TypeId} {fr : Nat × Nat} {C : List Value}
    (hr : w.heap[r]? = some (.cells cells T fr)) (hC : C <+: cells.toList) (hK : ∀ (i : Nat) (v : Value), (K.pub r)[i]? = some v → C[i]? = some v)
    (hb : r ∉ K.box) (ho : r ∉ K.own.map (·.1)) : RR (K.addPub r C) S w where
  nbox := h.nbox
  nown := h.nown
  nlp := h.nlp
  box b cs q h1 h2 := let ⟨c, t, h3, h4⟩ := h.box b cs q h1 h2; ⟨c, t, h3, h4.mono (KW.le_addPub hK)⟩
  boxnd := h.boxnd
  boxpub q hq := by
    have : q ≠ r := fun e => hb (e ▸ hq)
    show (if q = r then C else K.pub q) = []
    rw [if_neg this]; exact h.boxpub q hq
  pub B hB := by
    by_cases e : B = r
    · subst e
      have : (K.addPub B C).pub B = C := by simp [KW.addPub]
      exact ⟨cells, T, fr, hr, by rw [this]; exact hC⟩
    · have : (K.addPub r C).pub B = K.pub B := by simp [KW.addPub, e]
      rw [this] at hB ⊢
      exact h.pub B hB
  own t B en m e h1 := by
    have hne : B ≠ r := fun e' => ho (e' ▸ List.mem_map.2 ⟨_, List.mem_of_getElem? h1, rfl⟩)
    have : (K.addPub r C).pub B = K.pub B := by simp [KW.addPub, hne]
    rw [this]
    exact h.own t B en m e h1
  ownbox := h.ownbox
  ownnd := h.ownnd
  lp l L q h1 h2 := let ⟨lo, h3, h4⟩ := h.lp l L q h1 h2; ⟨lo, h3, h4.mono (KW.le_addPub hK)⟩
  lpnd := h.lpnd

theorem Ext.of_le {K K' : KW} {w : World} (hle : K.le K') (hm : ∀ r, r < w.heap.size → K'.mut r → K.mut r) (hp : ∀ r, r < w.heap.size → K'.pub r = K.pub r) : Ext K w K' w :=
  ⟨hle, rfl, rfl, rfl, Nat.le_refl _, fun _ _ _ => rfl, hm, fun _ lo h => ⟨lo, h, rfl⟩, fun _ _ h => h, fun r hr _ => hp r hr⟩

/-- A new row of cells, published whole. -/
theorem RR.newrow {K : KW} {S : AS} {w : World} (h : RR K S w) (cells : Array Value) (T : TypeId) :
    RR (K.addPub w.heap.size cells.toList) S (w.alloc (.cells cells T)) ∧ Ext K w (K.addPub w.heap.size cells.toList) (w.alloc (.cells cells T)) := by
  have hp := h.pub_size
  have hle : K.le (K.addPub w.heap.size cells.toList) := KW.le_addPub (fun i v hv => by rw [hp] at hv; simp at hv)
  refine ⟨(h.alloc _).publish (heap_alloc_new w _) (List.prefix_refl _) (fun i v hv => by rw [hp] at hv; simp at hv) (fun hb => Nat.lt_irrefl _ (h.box_lt hb)) (fun ho => Nat.lt_irrefl _ (h.own_lt ho)), ?_⟩
  refine ⟨hle, rfl, rfl, rfl, by simp, fun _ hr _ => alloc_old hr, fun _ _ hm => hm, fun _ lo h => ⟨lo, alloc_some h, rfl⟩, fun _ _ h => alloc_some h, fun r hr _ => ?_⟩
  show (if r = w.heap.size then _ else K.pub r) = K.pub r
  rw [if_neg (by omega)]

/-- A new box. -/
theorem RR.newbox {K : KW} {S : AS} {w : World} (h : RR K S w) {cells : Array Value} {T : TypeId} {cs : List AV} (hcs : BoxR K cs cells) :
    RR { K with box := K.box ++ [w.heap.size] } { S with box := S.box ++ [cs] } (w.alloc (.cells cells T)) ∧
      Ext K w { K with box := K.box ++ [w.heap.size] } (w.alloc (.cells cells T)) := by
  have hle : K.le { K with box := K.box ++ [w.heap.size] } :=
    ⟨fun b r hb => by simp only; rw [List.getElem?_append_left (List.getElem?_eq_some_iff.1 hb).1]; exact hb, fun _ _ _ _ _ h => ⟨_, _, _, h, .inr ⟨rfl, rfl, rfl⟩⟩, fun _ _ h => h, fun _ _ _ h => h⟩
  have ha := h.alloc (.cells cells T)
  refine ⟨?_, ⟨hle, rfl, rfl, rfl, by simp, fun _ hr _ => alloc_old hr, ?_, fun _ lo h => ⟨lo, alloc_some h, rfl⟩, fun _ _ h => alloc_some h, fun _ _ _ => rfl⟩⟩
  · refine ⟨by simp [h.nbox], h.nown, h.nlp, ?_, ?_, ?_, ha.pub, ha.own, ?_, ha.ownnd, fun l L r h1 h2 => let ⟨lo, h3, h4⟩ := ha.lp l L r h1 h2; ⟨lo, h3, h4.mono hle⟩, ha.lpnd⟩
    · intro b cs' r h1 h2
      simp only at h1 h2
      by_cases hb : b < S.box.length
      · rw [List.getElem?_append_left hb] at h1
        rw [List.getElem?_append_left (h.nbox ▸ hb)] at h2
        obtain ⟨c, t, h3, h4⟩ := ha.box b cs' r h1 h2
        exact ⟨c, t, h3, h4.mono hle⟩
      · rw [List.getElem?_append_right (by omega)] at h1
        rw [List.getElem?_append_right (by rw [h.nbox]; omega), h.nbox] at h2
        have hb0 : b - S.box.length = 0 := by
          have := (List.getElem?_eq_some_iff.1 h1).1
          simp at this; omega
        rw [hb0] at h1 h2
        simp at h1 h2
        subst h1; subst h2
        exact ⟨cells, T, heap_alloc_new w _, hcs.mono hle⟩
    · rw [List.nodup_append]
      refine ⟨h.boxnd, by simp, ?_⟩
      intro a ha' b hb
      simp at hb
      subst hb
      intro e; subst e
      exact Nat.lt_irrefl _ (h.box_lt ha')
    · intro r hr
      simp only [List.mem_append, List.mem_singleton] at hr
      rcases hr with hr | rfl
      · exact h.boxpub r hr
      · exact h.pub_size
    · intro t B en m e h1 hB
      simp only [List.mem_append, List.mem_singleton] at hB
      rcases hB with hB | rfl
      · exact h.ownbox t B en m e h1 hB
      · exact Nat.lt_irrefl _ (h.own_lt (List.mem_map.2 ⟨_, List.mem_of_getElem? h1, rfl⟩))
  · intro r hr hm
    rcases hm with hm | hm | hm
    · simp only [List.mem_append, List.mem_singleton] at hm
      rcases hm with hm | rfl
      · exact .inl hm
      · exact absurd hr (Nat.lt_irrefl _)
    · exact .inr (.inl hm)
    · exact .inr (.inr hm)

end Go.Proofs.Ytfjeopaaplnoaaa.Av
