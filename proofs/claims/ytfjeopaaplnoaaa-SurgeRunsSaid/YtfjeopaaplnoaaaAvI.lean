/-
  THE ABSTRACT WALK: the operations, one by one (6): append.
-/
import Derived.Test.YtfjeopaaplnoaaaAvH
namespace Go.Proofs.Ytfjeopaaplnoaaa.Av
open Go Go.RowKit
set_option linter.unusedSimpArgs false

/-- The cells of a slice's elements. -/
structure Content (K : KW) (st : Nat) (xs : List AV) (cs : List Value) : Prop where
  len : cs.length = xs.length * st
  cl : ∀ x ∈ xs, x.cells.length = st
  sg : ∀ (i : Nat) (x : AV) (j : Nat) (c : AV), xs[i]? = some x → x.cells[j]? = some c → c.single = true
  rel : ∀ (i : Nat) (x : AV) (j : Nat) (c : AV), xs[i]? = some x → x.cells[j]? = some c → ∃ u, cs[i * st + j]? = some u ∧ VR K c u

theorem Content.mono {K K' : KW} {st : Nat} {xs : List AV} {cs : List Value} (h : Content K st xs cs) (hle : K.le K') : Content K' st xs cs :=
  ⟨h.len, h.cl, h.sg, fun i x j c hx hc => let ⟨u, h1, h2⟩ := h.rel i x j c hx hc; ⟨u, h1, h2.mono hle⟩⟩

theorem Content.nil (K : KW) (st : Nat) : Content K st [] [] := ⟨by simp, fun x h => by simp at h, fun i x j c h => by simp at h, fun i x j c h => by simp at h⟩

theorem Content.append {K : KW} {st : Nat} {xs ys : List AV} {a b : List Value} (h : Content K st xs a) (k : Content K st ys b) : Content K st (xs ++ ys) (a ++ b) where
  len := by rw [List.length_append, List.length_append, h.len, k.len, Nat.add_mul]
  cl x hx := by
    rcases List.mem_append.1 hx with hx | hx
    · exact h.cl x hx
    · exact k.cl x hx
  sg i x j c hx hc := by
    by_cases hi : i < xs.length
    · rw [List.getElem?_append_left hi] at hx; exact h.sg i x j c hx hc
    · rw [List.getElem?_append_right (by omega)] at hx; exact k.sg _ x j c hx hc
  rel i x j c hx hc := by
    by_cases hi : i < xs.length
    · rw [List.getElem?_append_left hi] at hx
      obtain ⟨u, h1, h2⟩ := h.rel i x j c hx hc
      exact ⟨u, by rw [List.getElem?_append_left (List.getElem?_eq_some_iff.1 h1).1]; exact h1, h2⟩
    · rw [List.getElem?_append_right (by omega)] at hx
      obtain ⟨u, h1, h2⟩ := k.rel _ x j c hx hc
      refine ⟨u, ?_, h2⟩
      have e : i * st = a.length + (i - xs.length) * st := by rw [h.len, ← Nat.add_mul]; congr 1; omega
      rw [e, Nat.add_assoc, List.getElem?_append_right (by omega), Nat.add_sub_cancel_left]
      exact h1

theorem VR.content {K : KW} {k : SK} {st : Nat} {xs : List AV} {A : Addr} {n cap : Nat} (h : VR K (.sl k st xs) (.slice (some A) n cap)) :
    ∃ cs, Content K st xs cs ∧ (∀ (q : Nat) v, cs[q]? = some v → (K.pub A.block)[A.off + q]? = some v) ∧ ∀ v ∈ cs, v.oneCell' = true := by
  cases h with
  | sl rc hs hn hc hl h1 hg h2 hk =>
    have key : ∀ q, q < n * st → ∃ x c, xs[q / st]? = some x ∧ x.cells[q % st]? = some c ∧ q / st * st + q % st = q := by
      intro q hq
      have hst : 0 < st := Nat.pos_of_ne_zero (fun h0 => by rw [h0, Nat.mul_zero] at hq; omega)
      have hi : q / st < xs.length := by rw [hn]; exact Nat.div_lt_of_lt_mul (by rw [Nat.mul_comm]; exact hq)
      have hj : q % st < (xs[q / st]).cells.length := by rw [hl _ (List.getElem_mem hi)]; exact Nat.mod_lt _ hst
      exact ⟨_, _, List.getElem?_eq_getElem hi, List.getElem?_eq_getElem hj, by rw [Nat.mul_comm]; exact Nat.div_add_mod q st⟩
    refine ⟨(List.range (n * st)).map fun q => rc (q / st) (q % st), ⟨by simp [hn], hl, hg, ?_⟩, ?_, ?_⟩
    · intro i x j c hx hc
      have hi : i < n := hn ▸ (List.getElem?_eq_some_iff.1 hx).1
      have hj : j < st := by rw [← hl x (List.mem_of_getElem? hx)]; exact (List.getElem?_eq_some_iff.1 hc).1
      have hq : i * st + j < n * st := by
        have : (i + 1) * st ≤ n * st := Nat.mul_le_mul_right _ hi
        rw [Nat.add_mul] at this; omega
      have e1 : (i * st + j) / st = i := by rw [Nat.mul_comm, Nat.mul_add_div (by omega), Nat.div_eq_of_lt hj]; rfl
      have e2 : (i * st + j) % st = j := by rw [Nat.mul_comm, Nat.mul_add_mod, Nat.mod_eq_of_lt hj]
      refine ⟨rc i j, ?_, h2 i x j c hx hc⟩
      rw [List.getElem?_map, List.getElem?_range hq]
      simp [e1, e2]
    · intro q v hv
      have hq : q < n * st := by simpa using (List.getElem?_eq_some_iff.1 hv).1
      rw [List.getElem?_map, List.getElem?_range hq] at hv
      simp only [Option.map_some, Option.some.injEq] at hv
      obtain ⟨x, c, e1, e2, e3⟩ := key q hq
      rw [← hv, ← h1 _ x _ c e1 e2, Nat.add_assoc, e3]
    · intro v hv
      obtain ⟨q, hq, rfl⟩ := List.mem_map.1 hv
      obtain ⟨x, c, e1, e2, e3⟩ := key q (by simpa using hq)
      exact flat_of (h2 _ x _ c e1 e2) (hg _ x _ c e1 e2)

theorem Content.vr {K : KW} {st : Nat} {xs : List AV} {cs : List Value} (h : Content K st xs cs) {B n cap : Nat} {k : SK} (hp : ∀ (q : Nat) v, cs[q]? = some v → (K.pub B)[q]? = some v) (hn : xs.length = n) (hc : n ≤ cap)
    (hk : SKok K st n ⟨B, 0, none⟩ cap k) : VR K (.sl k st xs) (.slice (some ⟨B, 0, none⟩) n cap) := by
  refine .sl (fun i j => (cs[i * st + j]?).getD Go.undef) rfl hn hc h.cl ?_ h.sg ?_ hk
  · intro i x j c hx hc
    obtain ⟨u, h1, _⟩ := h.rel i x j c hx hc
    simp only [Nat.zero_add]
    rw [hp _ u h1, h1]; rfl
  · intro i x j c hx hc
    obtain ⟨u, h1, h2⟩ := h.rel i x j c hx hc
    rw [h1]; exact h2

/-! ### What an append does to the blocks -/

section
variable {K : KW} {S : AS} {w : World}

theorem RR.ownNew (h : RR K S w) (new : Array Value) (e : TypeId) {C : List Value} (hC : C <+: new.toList) :
    RR { K with own := K.own ++ [(w.heap.size, C.length, new.size, e)], pub := fun B => if B = w.heap.size then C else K.pub B } { S with own := S.own ++ [C.length] } (w.alloc (.cells new e)) ∧
    Ext K w { K with own := K.own ++ [(w.heap.size, C.length, new.size, e)], pub := fun B => if B = w.heap.size then C else K.pub B } (w.alloc (.cells new e)) := by
  have hle : K.le { K with own := K.own ++ [(w.heap.size, C.length, new.size, e)], pub := fun B => if B = w.heap.size then C else K.pub B } := by
    refine ⟨fun _ _ h => h, fun t B en m e' ht => ⟨B, en, m, ?_, .inr ⟨rfl, rfl, rfl⟩⟩, fun _ _ h => h, fun B i v hv => ?_⟩
    · simp only; rw [List.getElem?_append_left (List.getElem?_eq_some_iff.1 ht).1]; exact ht
    · simp only
      split
      · rename_i eq; subst eq; rw [h.pub_size] at hv; simp at hv
      · exact hv
  have ha := h.alloc (.cells new e)
  have hnew := heap_alloc_new w (.cells new e)
  refine ⟨⟨ha.nbox, by simp [h.nown], ha.nlp, fun b cs r h1 h2 => let ⟨c, t, h3, h4⟩ := ha.box b cs r h1 h2; ⟨c, t, h3, h4.mono hle⟩, ha.boxnd, ?_, ?_, ?_, ?_, ?_,
    fun l L r h1 h2 => let ⟨lo, h3, h4⟩ := ha.lp l L r h1 h2; ⟨lo, h3, h4.mono hle⟩, ha.lpnd⟩, ⟨hle, rfl, rfl, rfl, by simp, fun _ hr _ => alloc_old hr, ?_, fun _ lo h => ⟨lo, alloc_some h, rfl⟩, fun _ _ h => alloc_some h, fun r hr _ => if_neg (Nat.ne_of_lt hr)⟩⟩
  · intro r hr
    have : r ≠ w.heap.size := fun e' => Nat.lt_irrefl _ (e' ▸ h.box_lt hr)
    simp only [if_neg this]
    exact h.boxpub r hr
  · intro B hB
    simp only at hB ⊢
    by_cases eB : B = w.heap.size
    · subst eB
      rw [if_pos rfl]
      exact ⟨new, e, (0, 0), hnew, hC⟩
    · rw [if_neg eB] at hB ⊢
      exact ha.pub B hB
  · intro t B en m e' h1
    simp only at h1 ⊢
    by_cases ht : t < K.own.length
    · rw [List.getElem?_append_left ht] at h1
      obtain ⟨q1, q2, q3⟩ := ha.own t B en m e' h1
      have hne : B ≠ w.heap.size := fun e'' => Nat.lt_irrefl _ (e'' ▸ h.own_lt (List.mem_map.2 ⟨_, List.mem_of_getElem? h1, rfl⟩))
      rw [if_neg hne, List.getElem?_append_left (h.nown ▸ ht)]
      exact ⟨q1, q2, q3⟩
    · rw [List.getElem?_append_right (by omega)] at h1
      have h0 : t - K.own.length = 0 := by
        have := (List.getElem?_eq_some_iff.1 h1).1
        simp at this; omega
      rw [h0] at h1
      simp only [List.getElem?_cons_zero, Option.some.injEq, Prod.mk.injEq] at h1
      obtain ⟨rfl, rfl, rfl, rfl⟩ := h1
      rw [List.getElem?_append_right (by rw [← h.nown]; omega), if_pos rfl, ← h.nown, h0]
      exact ⟨rfl, ⟨new, hnew, rfl⟩, rfl⟩
  · intro t B en m e' h1 hB
    simp only at h1
    by_cases ht : t < K.own.length
    · rw [List.getElem?_append_left ht] at h1
      exact h.ownbox t B en m e' h1 hB
    · rw [List.getElem?_append_right (by omega)] at h1
      have h0 : t - K.own.length = 0 := by
        have := (List.getElem?_eq_some_iff.1 h1).1
        simp at this; omega
      rw [h0] at h1
      simp only [List.getElem?_cons_zero, Option.some.injEq, Prod.mk.injEq] at h1
      obtain ⟨rfl, _⟩ := h1
      exact Nat.lt_irrefl _ (h.box_lt hB)
  · simp only [List.map_append, List.map_cons, List.map_nil]
    rw [List.nodup_append]
    refine ⟨h.ownnd, by simp, ?_⟩
    intro a ha' b hb
    simp at hb
    subst hb
    intro e'; subst e'
    exact Nat.lt_irrefl _ (h.own_lt ha')
  · intro r hr hm
    rcases hm with hm | hm | hm
    · exact .inl hm
    · simp only [List.map_append, List.map_cons, List.map_nil, List.mem_append, List.mem_singleton] at hm
      rcases hm with hm | rfl
      · exact .inr (.inl hm)
      · exact absurd hr (Nat.lt_irrefl _)
    · exact .inr (.inr hm)

theorem map_fst_set {l : List (Nat × Nat × Nat × TypeId)} {t B en m : Nat} {e : TypeId} {q : Nat × Nat × Nat × TypeId} (h : l[t]? = some (B, en, m, e)) (hq : q.1 = B) : (l.set t q).map (·.1) = l.map (·.1) := by
  rw [List.map_set]
  apply List.ext_getElem?
  intro i
  by_cases hi : i = t
  · subst hi
    rw [List.getElem?_set_self (by simpa using (List.getElem?_eq_some_iff.1 h).1)]
    simp [List.getElem?_map, h, hq]
  · rw [List.getElem?_set_ne (Ne.symm hi)]

/-- Appended in place. -/
theorem RR.ownIn (h : RR K S w) {t B en m : Nat} {e : TypeId} (ht : K.own[t]? = some (B, en, m, e)) {cur new : Array Value} (hcur : w.heap[B]? = some (.cells cur e (0, 0))) (hsz : new.size = cur.size) {C : List Value}
    (hC : C <+: new.toList) (hK : K.pub B <+: C) :
    RR { K with own := K.own.set t (B, C.length, m, e), pub := fun b => if b = B then C else K.pub b } { S with own := S.own.set t C.length } (w.setRow B new) ∧
    Ext K w { K with own := K.own.set t (B, C.length, m, e), pub := fun b => if b = B then C else K.pub b } (w.setRow B new) := by
  obtain ⟨o1, ⟨cells, o2, o3⟩, o4⟩ := h.own t B en m e ht
  rw [hcur] at o2
  simp only [Option.some.injEq, Obj.cells.injEq] at o2
  obtain ⟨rfl, _⟩ := o2
  have hmemB : B ∈ K.own.map (·.1) := List.mem_map.2 ⟨_, List.mem_of_getElem? ht, rfl⟩
  have hlen : en ≤ C.length := o4 ▸ hK.length_le
  have hle : K.le { K with own := K.own.set t (B, C.length, m, e), pub := fun b => if b = B then C else K.pub b } := by
    refine ⟨fun _ _ h => h, fun t' B' en' m' e' ht' => ?_, fun _ _ h => h, fun b i v hv => ?_⟩
    · simp only
      by_cases he : t' = t
      · subst he
        rw [ht] at ht'
        simp only [Option.some.injEq, Prod.mk.injEq] at ht'
        obtain ⟨rfl, rfl, rfl, rfl⟩ := ht'
        refine ⟨B, C.length, m, List.getElem?_set_self (List.getElem?_eq_some_iff.1 ht).1, ?_⟩
        by_cases hq : en < C.length
        · exact .inl hq
        · exact .inr ⟨rfl, by omega, rfl⟩
      · exact ⟨B', en', m', by rw [List.getElem?_set_ne (Ne.symm he)]; exact ht', .inr ⟨rfl, rfl, rfl⟩⟩
    · simp only
      split
      · rename_i eq; subst eq
        obtain ⟨s, hs⟩ := hK
        rw [← hs, List.getElem?_append_left (List.getElem?_eq_some_iff.1 hv).1]; exact hv
      · exact hv
  have hnb : B ∉ K.box := h.ownbox t B en m e ht
  have hrow := setRow_heap w B cur new e (0, 0) hcur
  refine ⟨⟨h.nbox, by simp [h.nown], h.nlp, ?_, h.boxnd, ?_, ?_, ?_, ?_, ?_, ?_, h.lpnd⟩, ⟨hle, rfl, rfl, rfl, by simp, ?_, ?_, ?_, ?_, fun r hr hm => if_neg (fun (e2 : r = B) => hm (.inr (.inl (by rw [e2]; exact List.mem_map.2 ⟨_, List.mem_of_getElem? ht, rfl⟩))))⟩⟩
  · intro b cs r h1 h2
    obtain ⟨c, t', h3, h4⟩ := h.box b cs r h1 h2
    have hne : r ≠ B := fun e' => hnb (e' ▸ List.mem_of_getElem? h2)
    exact ⟨c, t', by rw [setRow_other _ _ _ _ hne]; exact h3, h4.mono hle⟩
  · intro r hr
    have : r ≠ B := fun e' => hnb (e' ▸ hr)
    simp only [if_neg this]
    exact h.boxpub r hr
  · intro b hb
    simp only at hb ⊢
    by_cases eB : b = B
    · subst eB; rw [if_pos rfl]; exact ⟨new, e, (0, 0), hrow, hC⟩
    · rw [if_neg eB] at hb ⊢
      obtain ⟨c, t', fr, h3, h4⟩ := h.pub b hb
      exact ⟨c, t', fr, by rw [setRow_other _ _ _ _ eB]; exact h3, h4⟩
  · intro t' B' en' m' e' h1
    simp only at h1 ⊢
    by_cases he : t' = t
    · subst he
      rw [List.getElem?_set_self (List.getElem?_eq_some_iff.1 ht).1] at h1
      simp only [Option.some.injEq, Prod.mk.injEq] at h1
      obtain ⟨rfl, rfl, rfl, rfl⟩ := h1
      rw [List.getElem?_set_self (h.nown ▸ (List.getElem?_eq_some_iff.1 ht).1), if_pos rfl]
      exact ⟨rfl, ⟨new, hrow, hsz.trans o3⟩, rfl⟩
    · rw [List.getElem?_set_ne (Ne.symm he)] at h1 ⊢
      obtain ⟨q1, ⟨c, q2, q3⟩, q4⟩ := h.own t' B' en' m' e' h1
      have hne : B' ≠ B := by
        intro e''; subst e''
        exact he (nodup_get h.ownnd (by rw [List.getElem?_map, h1]; rfl) (by rw [List.getElem?_map, ht]; rfl))
      rw [if_neg hne]
      exact ⟨q1, ⟨c, by rw [setRow_other _ _ _ _ hne]; exact q2, q3⟩, q4⟩
  · intro t' B' en' m' e' h1
    simp only at h1
    by_cases he : t' = t
    · subst he
      rw [List.getElem?_set_self (List.getElem?_eq_some_iff.1 ht).1] at h1
      simp only [Option.some.injEq, Prod.mk.injEq] at h1
      obtain ⟨rfl, _⟩ := h1
      exact hnb
    · rw [List.getElem?_set_ne (Ne.symm he)] at h1
      exact h.ownbox t' B' en' m' e' h1
  · simp only; rw [map_fst_set ht rfl]; exact h.ownnd
  · intro l L r h1 h2
    obtain ⟨lo, h3, h4⟩ := h.lp l L r h1 h2
    have hne : r ≠ B := by intro e'; subst e'; rw [hcur] at h3; cases h3
    exact ⟨lo, by rw [setRow_other _ _ _ _ hne]; exact h3, h4.mono hle⟩
  · intro r _ hm
    exact setRow_other _ _ _ _ (fun e' => hm (.inr (.inl (e' ▸ hmemB))))
  · intro r hr hm
    rcases hm with hm | hm | hm
    · exact .inl hm
    · simp only at hm; rw [map_fst_set ht rfl] at hm; exact .inr (.inl hm)
    · exact .inr (.inr hm)
  · intro r lo hl
    have hne : r ≠ B := by intro e'; subst e'; rw [hcur] at hl; cases hl
    exact ⟨lo, by rw [setRow_other _ _ _ _ hne]; exact hl, rfl⟩
  · intro r d hd
    have hne : r ≠ B := by intro e'; subst e'; rw [hcur] at hd; cases hd
    rw [setRow_other _ _ _ _ hne]; exact hd

/-- Moved to a new block. -/
theorem RR.ownRe (h : RR K S w) {t B en m : Nat} {e : TypeId} (ht : K.own[t]? = some (B, en, m, e)) (new : Array Value) {C : List Value} (hC : C <+: new.toList) (hlt : en < C.length) :
    RR { K with own := K.own.set t (w.heap.size, C.length, new.size, e), pub := fun b => if b = w.heap.size then C else K.pub b } { S with own := S.own.set t C.length } (w.alloc (.cells new e)) ∧
    Ext K w { K with own := K.own.set t (w.heap.size, C.length, new.size, e), pub := fun b => if b = w.heap.size then C else K.pub b } (w.alloc (.cells new e)) := by
  have hle : K.le { K with own := K.own.set t (w.heap.size, C.length, new.size, e), pub := fun b => if b = w.heap.size then C else K.pub b } := by
    refine ⟨fun _ _ h => h, fun t' B' en' m' e' ht' => ?_, fun _ _ h => h, fun b i v hv => ?_⟩
    · simp only
      by_cases he : t' = t
      · subst he
        rw [ht] at ht'
        simp only [Option.some.injEq, Prod.mk.injEq] at ht'
        obtain ⟨rfl, rfl, rfl, rfl⟩ := ht'
        exact ⟨_, _, _, List.getElem?_set_self (List.getElem?_eq_some_iff.1 ht).1, .inl hlt⟩
      · exact ⟨B', en', m', by rw [List.getElem?_set_ne (Ne.symm he)]; exact ht', .inr ⟨rfl, rfl, rfl⟩⟩
    · simp only
      split
      · rename_i eq; subst eq; rw [h.pub_size] at hv; simp at hv
      · exact hv
  have ha := h.alloc (.cells new e)
  have hnew := heap_alloc_new w (.cells new e)
  refine ⟨⟨ha.nbox, by simp [h.nown], ha.nlp, fun b cs r h1 h2 => let ⟨c, t, h3, h4⟩ := ha.box b cs r h1 h2; ⟨c, t, h3, h4.mono hle⟩, ha.boxnd, ?_, ?_, ?_, ?_, ?_,
    fun l L r h1 h2 => let ⟨lo, h3, h4⟩ := ha.lp l L r h1 h2; ⟨lo, h3, h4.mono hle⟩, ha.lpnd⟩, ⟨hle, rfl, rfl, rfl, by simp, fun _ hr _ => alloc_old hr, ?_, fun _ lo h => ⟨lo, alloc_some h, rfl⟩, fun _ _ h => alloc_some h, fun r hr _ => if_neg (Nat.ne_of_lt hr)⟩⟩
  · intro r hr
    have : r ≠ w.heap.size := fun e' => Nat.lt_irrefl _ (e' ▸ h.box_lt hr)
    simp only [if_neg this]
    exact h.boxpub r hr
  · intro B' hB
    simp only at hB ⊢
    by_cases eB : B' = w.heap.size
    · subst eB
      rw [if_pos rfl]
      exact ⟨new, e, (0, 0), hnew, hC⟩
    · rw [if_neg eB] at hB ⊢
      exact ha.pub B' hB
  · intro t' B' en' m' e' h1
    simp only at h1 ⊢
    by_cases he : t' = t
    · subst he
      rw [List.getElem?_set_self (List.getElem?_eq_some_iff.1 ht).1] at h1
      simp only [Option.some.injEq, Prod.mk.injEq] at h1
      obtain ⟨rfl, rfl, rfl, rfl⟩ := h1
      rw [List.getElem?_set_self (h.nown ▸ (List.getElem?_eq_some_iff.1 ht).1), if_pos rfl]
      exact ⟨rfl, ⟨new, hnew, rfl⟩, rfl⟩
    · rw [List.getElem?_set_ne (Ne.symm he)] at h1 ⊢
      obtain ⟨q1, q2, q4⟩ := ha.own t' B' en' m' e' h1
      have hne : B' ≠ w.heap.size := fun e'' => Nat.lt_irrefl _ (e'' ▸ h.own_lt (List.mem_map.2 ⟨_, List.mem_of_getElem? h1, rfl⟩))
      rw [if_neg hne]
      exact ⟨q1, q2, q4⟩
  · intro t' B' en' m' e' h1 hB
    simp only at h1
    by_cases he : t' = t
    · subst he
      rw [List.getElem?_set_self (List.getElem?_eq_some_iff.1 ht).1] at h1
      simp only [Option.some.injEq, Prod.mk.injEq] at h1
      obtain ⟨rfl, _⟩ := h1
      exact Nat.lt_irrefl _ (h.box_lt hB)
    · rw [List.getElem?_set_ne (Ne.symm he)] at h1
      exact h.ownbox t' B' en' m' e' h1 hB
  · simp only [List.map_set]
    rw [List.nodup_iff_pairwise_ne, List.pairwise_iff_getElem]
    intro i j hi hj hij
    simp only [List.length_set, List.length_map] at hi hj
    have hp := List.pairwise_iff_getElem.1 h.ownnd i j (by simpa using hi) (by simpa using hj) hij
    rw [List.getElem_set, List.getElem_set]
    have hlt' : ∀ (k : Nat) (hk : k < (K.own.map (·.1)).length), (K.own.map (·.1))[k] < w.heap.size := fun k hk => h.own_lt (List.getElem_mem hk)
    split
    · split
      · omega
      · exact fun e' => Nat.lt_irrefl _ (e' ▸ hlt' j (by simpa using hj))
    · split
      · exact fun e' => Nat.lt_irrefl _ (e' ▸ hlt' i (by simpa using hi))
      · exact hp
  · intro r hr hm
    rcases hm with hm | hm | hm
    · exact .inl hm
    · simp only [List.map_set] at hm
      rcases List.mem_or_eq_of_mem_set hm with hm | rfl
      · exact .inr (.inl hm)
      · exact absurd hr (Nat.lt_irrefl _)
    · exact .inr (.inr hm)

end
end Go.Proofs.Ytfjeopaaplnoaaa.Av
