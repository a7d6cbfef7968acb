/-
  THE GUIDED WALK (5): calls that turn the state; what they leave alone; ranges over functions.
-/
import Derived.Test.YtfjeopaaplnoaaaAvZc
namespace Go.Proofs.Ytfjeopaaplnoaaa.Av
open Go Go.RowKit
set_option linter.unusedSimpArgs false
set_option linter.unusedVariables false

/-! ### What lies beyond a state is left alone -/


structure SameLen (S S' : AS) : Prop where
  box : S'.box.length = S.box.length
  own : S.own.length ≤ S'.own.length
  lp : S'.lp.length = S.lp.length

def KW.back (K K' : KW) (S : AS) : KW := ⟨K'.box ++ K.box.drop S.box.length, K'.own ++ K.own.drop S.own.length, K'.lp ++ K.lp.drop S.lp.length, K'.pub⟩

theorem take_of_le {α : Type} {l l' : List α} {n : Nat} (hn : l'.length = n) (hl : n ≤ l.length) (h : ∀ (i : Nat) (a : α), (l.take n)[i]? = some a → l'[i]? = some a) : l' = l.take n := by
  apply List.ext_getElem?
  intro i
  by_cases hi : i < n
  · have : (l.take n)[i]? = some l[i] := by rw [List.getElem?_take, if_pos hi]; exact List.getElem?_eq_getElem (by omega)
    rw [this]; exact h i _ this
  · rw [List.getElem?_eq_none (by omega), List.getElem?_eq_none (by simp; omega)]

theorem RR.merge {K : KW} {S G S' : AS} {w w' : World} {K' : KW} (h : RR K (S.app G) w) (he : Ext (K.cut S.box.length S.own.length S.lp.length) w K' w') (h' : RR K' S' w') (hs : SameLen S S') (hG : S'.own.length = S.own.length ∨ G.own = []) :
    RR (K.back K' S) (S'.app G) w' ∧ Ext K w (K.back K' S) w' := by
  have nb : K.box.length = S.box.length + G.box.length := by rw [h.nbox]; simp [AS.app]
  have no : K.own.length = S.own.length + G.own.length := by rw [h.nown]; simp [AS.app]
  have nl : K.lp.length = S.lp.length + G.lp.length := by rw [h.nlp]; simp [AS.app]
  have mb : K'.box.length = S.box.length := by rw [h'.nbox, hs.box]
  have mo : K'.own.length = S'.own.length := h'.nown
  have ml : K'.lp.length = S.lp.length := by rw [h'.nlp, hs.lp]
  have eb : K'.box = K.box.take S.box.length := take_of_le mb (by omega) (fun i a h => he.le.box i a h)
  have el : K'.lp = K.lp.take S.lp.length := take_of_le ml (by omega) (fun i a h => he.le.lp i a h)
  have eB : (K.back K' S).box = K.box := by simp only [KW.back]; rw [eb]; exact List.take_append_drop ..
  have eL : (K.back K' S).lp = K.lp := by simp only [KW.back]; rw [el]; exact List.take_append_drop ..
  have hdb : (K.box.take S.box.length ++ K.box.drop S.box.length).Nodup := by rw [List.take_append_drop]; exact h.boxnd
  have hdl : (K.lp.take S.lp.length ++ K.lp.drop S.lp.length).Nodup := by rw [List.take_append_drop]; exact h.lpnd
  have hdo : ((K.own.take S.own.length).map (·.1) ++ (K.own.drop S.own.length).map (·.1)).Nodup := by rw [← List.map_append, List.take_append_drop]; exact h.ownnd
  -- what lies beyond is not the state's own
  have nmb : ∀ r ∈ K.box.drop S.box.length, ¬ (K.cut S.box.length S.own.length S.lp.length).mut r := by
    intro r hr hm
    have hrb : r ∈ K.box := List.mem_of_mem_drop hr
    rcases hm with hm | hm | hm
    · exact (List.nodup_append.1 hdb).2.2 r hm r hr rfl
    · obtain ⟨⟨B, en, m, e⟩, hq, rfl⟩ := List.mem_map.1 hm
      obtain ⟨t, ht⟩ := List.mem_iff_getElem?.1 (List.mem_of_mem_take hq)
      exact h.ownbox t B en m e ht hrb
    · obtain ⟨lo, h1⟩ := h.lp_obj (List.mem_of_mem_take hm)
      obtain ⟨b, hb⟩ := List.mem_iff_getElem?.1 hrb
      have hb' : b < (S.app G).box.length := by rw [← h.nbox]; exact (List.getElem?_eq_some_iff.1 hb).1
      obtain ⟨cells, T, h2, _⟩ := h.box b _ r (List.getElem?_eq_getElem hb') hb
      rw [h1] at h2; cases h2
  have nmo : ∀ q ∈ K.own.drop S.own.length, ¬ (K.cut S.box.length S.own.length S.lp.length).mut q.1 := by
    intro q hq hm
    obtain ⟨B, en, m, e⟩ := q
    obtain ⟨t, ht⟩ := List.mem_iff_getElem?.1 (List.mem_of_mem_drop hq)
    obtain ⟨_, ⟨cells, h1, _⟩, _⟩ := h.own t B en m e ht
    rcases hm with hm | hm | hm
    · exact h.ownbox t B en m e ht (List.mem_of_mem_take hm)
    · exact (List.nodup_append.1 hdo).2.2 B hm B (List.mem_map.2 ⟨_, hq, rfl⟩) rfl
    · obtain ⟨lo, h2⟩ := h.lp_obj (List.mem_of_mem_take hm)
      rw [h1] at h2; cases h2
  have nml : ∀ r ∈ K.lp.drop S.lp.length, ¬ (K.cut S.box.length S.own.length S.lp.length).mut r := by
    intro r hr hm
    obtain ⟨lo, h1⟩ := h.lp_obj (List.mem_of_mem_drop hr)
    rcases hm with hm | hm | hm
    · obtain ⟨b, hb⟩ := List.mem_iff_getElem?.1 (List.mem_of_mem_take hm)
      have hb' : b < (S.app G).box.length := by rw [← h.nbox]; exact (List.getElem?_eq_some_iff.1 hb).1
      obtain ⟨cells, T, h2, _⟩ := h.box b _ r (List.getElem?_eq_getElem hb') hb
      rw [h1] at h2; cases h2
    · obtain ⟨⟨B, en, m, e⟩, hq, rfl⟩ := List.mem_map.1 hm
      obtain ⟨t, ht⟩ := List.mem_iff_getElem?.1 (List.mem_of_mem_take hq)
      obtain ⟨_, ⟨cells, h2, _⟩, _⟩ := h.own t B en m e ht
      rw [h1] at h2; cases h2
    · exact (List.nodup_append.1 hdl).2.2 r hm r hr rfl
  have hle : K.le (K.back K' S) := by
    refine ⟨fun b r hb => by rw [eB]; exact hb, fun t B en m e ht => ?_, fun l r hl => by rw [eL]; exact hl, fun B i v hv => he.le.pub B i v hv⟩
    by_cases hlt : t < S.own.length
    · obtain ⟨B', en', m', q1, q2⟩ := he.le.own t B en m e (by simp only [KW.cut]; rw [List.getElem?_take, if_pos hlt]; exact ht)
      exact ⟨B', en', m', by simp only [KW.back]; rw [List.getElem?_append_left (List.getElem?_eq_some_iff.1 q1).1]; exact q1, q2⟩
    · refine ⟨B, en, m, ?_, .inr ⟨rfl, rfl, rfl⟩⟩
      have htl := (List.getElem?_eq_some_iff.1 ht).1
      have mo' : S'.own.length = S.own.length := by
        rcases hG with hG | hG
        · exact hG
        · rw [hG] at no; simp at no; omega
      simp only [KW.back]
      rw [List.getElem?_append_right (by omega), List.getElem?_drop, mo, mo']
      rw [show S.own.length + (t - S.own.length) = t by omega]
      exact ht
  have hle' : K'.le (K.back K' S) := by
    refine ⟨fun b r hb => ?_, fun t B en m e ht => ⟨B, en, m, ?_, .inr ⟨rfl, rfl, rfl⟩⟩, fun l r hl => ?_, fun B i v hv => hv⟩
    · simp only [KW.back]; rw [List.getElem?_append_left (List.getElem?_eq_some_iff.1 hb).1]; exact hb
    · simp only [KW.back]; rw [List.getElem?_append_left (List.getElem?_eq_some_iff.1 ht).1]; exact ht
    · simp only [KW.back]; rw [List.getElem?_append_left (List.getElem?_eq_some_iff.1 hl).1]; exact hl
  have hK0 : ∀ r, (K.cut S.box.length S.own.length S.lp.length).mut r → K.mut r := by
    intro r hm
    rcases hm with hm | hm | hm
    · exact .inl (List.mem_of_mem_take hm)
    · simp only [KW.cut] at hm; rw [List.map_take] at hm; exact .inr (.inl (List.mem_of_mem_take hm))
    · exact .inr (.inr (List.mem_of_mem_take hm))
  refine ⟨⟨by rw [eB, nb]; simp [AS.app, hs.box], ?_, by rw [eL, nl]; simp [AS.app, hs.lp], ?_, by rw [eB]; exact h.boxnd, ?_, h'.pub, ?_, ?_, ?_, ?_, by rw [eL]; exact h.lpnd⟩, ⟨hle, he.os, he.tape, he.output, he.size, fun r hr hm => he.frame r hr (fun hm' => hm (hK0 r hm')), ?_, he.loops, he.defs, fun r hr hm => he.pubf r hr (fun hm' => hm (hK0 r hm'))⟩⟩
  · simp only [KW.back, AS.app, List.length_append, List.length_drop]; rw [mo, no]; omega
  · -- boxes
    intro b cs r h1 h2
    rw [eB] at h2
    by_cases hb : b < S.box.length
    · simp only [AS.app] at h1
      rw [List.getElem?_append_left (by rw [hs.box]; exact hb)] at h1
      obtain ⟨cells, T, q1, q2⟩ := h'.box b cs r h1 (by rw [eb, List.getElem?_take, if_pos hb]; exact h2)
      exact ⟨cells, T, q1, q2.mono hle'⟩
    · simp only [AS.app] at h1
      rw [List.getElem?_append_right (by rw [hs.box]; omega), hs.box] at h1
      have h1' : (S.app G).box[b]? = some cs := by simp only [AS.app]; rw [List.getElem?_append_right (by omega)]; exact h1
      obtain ⟨cells, T, q1, q2⟩ := h.box b cs r h1' h2
      have hd : r ∈ K.box.drop S.box.length := by
        refine List.mem_of_getElem? (i := b - S.box.length) ?_
        rw [List.getElem?_drop, show S.box.length + (b - S.box.length) = b by omega]; exact h2
      exact ⟨cells, T, (he.frame r (lt_heap q1) (nmb r hd)).trans q1, q2.mono hle⟩
  · -- boxes are not published
    intro r hr
    rw [eB] at hr
    have hr' : r ∈ K.box.take S.box.length ++ K.box.drop S.box.length := by rw [List.take_append_drop]; exact hr
    rcases List.mem_append.1 hr' with hr1 | hr1
    · exact h'.boxpub r (by rw [eb]; exact hr1)
    · have := he.pubf r (h.box_lt hr) (nmb r hr1)
      simp only [KW.back]
      rw [this]
      exact h.boxpub r hr
  · -- tokens
    intro t B en m e ht
    by_cases hlt : t < S'.own.length
    · simp only [KW.back] at ht
      rw [List.getElem?_append_left (by omega)] at ht
      obtain ⟨q1, q2, q3⟩ := h'.own t B en m e ht
      exact ⟨by simp only [AS.app]; rw [List.getElem?_append_left hlt]; exact q1, q2, q3⟩
    · have htl := (List.getElem?_eq_some_iff.1 ht).1
      have mo' : S'.own.length = S.own.length := by
        rcases hG with hG | hG
        · exact hG
        · simp only [KW.back, List.length_append, List.length_drop] at htl; rw [hG] at no; simp at no; omega
      simp only [KW.back] at ht
      rw [List.getElem?_append_right (by omega), List.getElem?_drop, mo, mo', show S.own.length + (t - S.own.length) = t by omega] at ht
      obtain ⟨q1, ⟨cells, q2, q4⟩, q3⟩ := h.own t B en m e ht
      have hd : (B, en, m, e) ∈ K.own.drop S.own.length := by
        refine List.mem_of_getElem? (i := t - S.own.length) ?_
        rw [List.getElem?_drop, show S.own.length + (t - S.own.length) = t by omega]; exact ht
      have hnm := nmo _ hd
      refine ⟨?_, ⟨cells, (he.frame B (lt_heap q2) hnm).trans q2, q4⟩, ?_⟩
      · simp only [AS.app] at q1 ⊢
        rw [List.getElem?_append_right (by omega)] at q1
        rw [List.getElem?_append_right (by omega), mo']; exact q1
      · have := he.pubf B (lt_heap q2) hnm
        simp only [KW.back]
        rw [this]
        exact q3
  · -- tokens are no boxes
    intro t B en m e ht hB
    rw [eB] at hB
    by_cases hlt : t < S'.own.length
    · simp only [KW.back] at ht
      rw [List.getElem?_append_left (by omega)] at ht
      have hB' : B ∈ K.box.take S.box.length ++ K.box.drop S.box.length := by rw [List.take_append_drop]; exact hB
      rcases List.mem_append.1 hB' with hB1 | hB1
      · exact h'.ownbox t B en m e ht (by rw [eb]; exact hB1)
      · exact nmb B hB1 (he.newmut B (h.box_lt hB) (.inr (.inl (List.mem_map.2 ⟨_, List.mem_of_getElem? ht, rfl⟩))))
    · have htl := (List.getElem?_eq_some_iff.1 ht).1
      have mo' : S'.own.length = S.own.length := by
        rcases hG with hG | hG
        · exact hG
        · simp only [KW.back, List.length_append, List.length_drop] at htl; rw [hG] at no; simp at no; omega
      simp only [KW.back] at ht
      rw [List.getElem?_append_right (by omega), List.getElem?_drop, mo, mo', show S.own.length + (t - S.own.length) = t by omega] at ht
      exact h.ownbox t B en m e ht hB
  · -- tokens are apart
    simp only [KW.back, List.map_append]
    rw [List.nodup_append]
    refine ⟨h'.ownnd, (List.nodup_append.1 hdo).2.1, ?_⟩
    intro a ha b hb hab
    subst hab
    obtain ⟨q, hq, rfl⟩ := List.mem_map.1 hb
    obtain ⟨t, ht⟩ := List.mem_iff_getElem?.1 (List.mem_of_mem_drop hq)
    obtain ⟨B, en, m, e⟩ := q
    obtain ⟨_, ⟨cells, q2, _⟩, _⟩ := h.own t B en m e ht
    exact nmo _ hq (he.newmut _ (lt_heap q2) (.inr (.inl ha)))
  · -- loops
    intro l L r h1 h2
    rw [eL] at h2
    by_cases hl : l < S.lp.length
    · simp only [AS.app] at h1
      rw [List.getElem?_append_left (by rw [hs.lp]; exact hl)] at h1
      obtain ⟨lo, q1, q2⟩ := h'.lp l L r h1 (by rw [el, List.getElem?_take, if_pos hl]; exact h2)
      exact ⟨lo, q1, q2.mono hle'⟩
    · simp only [AS.app] at h1
      rw [List.getElem?_append_right (by rw [hs.lp]; omega), hs.lp] at h1
      have h1' : (S.app G).lp[l]? = some L := by simp only [AS.app]; rw [List.getElem?_append_right (by omega)]; exact h1
      obtain ⟨lo, q1, q2⟩ := h.lp l L r h1' h2
      have hd : r ∈ K.lp.drop S.lp.length := by
        refine List.mem_of_getElem? (i := l - S.lp.length) ?_
        rw [List.getElem?_drop, show S.lp.length + (l - S.lp.length) = l by omega]; exact h2
      exact ⟨lo, (he.frame r (lt_heap q1) (nml r hd)).trans q1, q2.mono hle⟩
  · -- nothing else may turn
    intro r hr hm
    rcases hm with hm | hm | hm
    · rw [eB] at hm; exact .inl hm
    · simp only [KW.back, List.map_append, List.mem_append] at hm
      rcases hm with hm | hm
      · exact hK0 r (he.newmut r hr (.inr (.inl hm)))
      · obtain ⟨q, hq, rfl⟩ := List.mem_map.1 hm
        exact .inr (.inl (List.mem_map.2 ⟨q, List.mem_of_mem_drop hq, rfl⟩))
    · rw [eL] at hm; exact .inr (.inr hm)

section
variable {P : Program} {T : FT} {m n : Nat}

theorem WfS.cutS {S G : AS} {K : KW} {w : World} (h : RR K (S.app G) w) (hw : WfS S) : RR (K.cut S.box.length S.own.length S.lp.length) S w := h.cutR hw

theorem VR.back {K K' : KW} {S : AS} {v : AV} {r : Value} (h : VR K' v r) : VR (K.back K' S) v r :=
  h.mono ⟨fun b r hb => by simp only [KW.back]; rw [List.getElem?_append_left (List.getElem?_eq_some_iff.1 hb).1]; exact hb,
    fun t B en m e ht => ⟨B, en, m, by simp only [KW.back]; rw [List.getElem?_append_left (List.getElem?_eq_some_iff.1 ht).1]; exact ht, .inr ⟨rfl, rfl, rfl⟩⟩,
    fun l r hl => by simp only [KW.back]; rw [List.getElem?_append_left (List.getElem?_eq_some_iff.1 hl).1]; exact hl, fun B i v hv => hv⟩

/-- A call in a greater state. -/
theorem CallC.frame {g : FuncId} {args : List AV} {S S' : AS} {x : AV} (h : CallC P g args S x S') (hs : SameLen S S') (hw : WfS S) (ha : ∀ a ∈ args, Wf S.box.length S.own.length S.lp.length a) (G : AS) (hG : S'.own.length = S.own.length ∨ G.own = []) : CallC P g args (S.app G) x (S'.app G) := by
  refine ⟨⟨h.out.1, fun K w rs htr hr => ?_⟩⟩
  have h0 := hr.cutR hw
  have ht0 : TR (K.cut S.box.length S.own.length S.lp.length) args rs := ⟨htr.1, fun i v r h1 h2 => (htr.2 i v r h1 h2).cutK (ha v (List.mem_of_getElem? h1))⟩
  refine (h.out.2 _ w rs ht0 h0).mono ?_
  rintro e w' ⟨v', rv, S1, K', rfl, ⟨rfl, rfl⟩, hv', hr', he⟩
  obtain ⟨r1, r2⟩ := hr.merge he hr' hs hG
  exact ⟨v', rv, _, _, rfl, ⟨rfl, rfl⟩, hv'.back, r1, r2⟩

theorem CallC.args {g : FuncId} {args args' : List AV} {S S' : AS} {x : AV} (h : CallC P g args' S x S') (hl : args.length = args'.length) (ha : ∀ (i : Nat) a b, args[i]? = some a → args'[i]? = some b → VLe a b) : CallC P g args S x S' := by
  refine ⟨⟨h.out.1, fun K w rs h1 h2 => h.out.2 K w rs ⟨hl ▸ h1.1, fun i y r hy hr => ?_⟩ h2⟩⟩
  have hi : i < args.length := by rw [hl]; exact (List.getElem?_eq_some_iff.1 hy).1
  exact ha i _ y (List.getElem?_eq_getElem hi) hy K r (h1.2 i _ r (List.getElem?_eq_getElem hi) hr)

theorem resOk_mono {rd : Option Nat} {Q Q' : Value → World → Prop} {r : Result Next} (h : resOk P rd Q r) (hq : ∀ v w, Q v w → Q' v w) : resOk P rd Q' r := by
  unfold resOk at h ⊢
  split at h
  · exact hq _ _ h
  · exact hq _ _ h
  · refine h.mono ?_
    rintro e w'' ⟨v, rfl, hn⟩
    exact ⟨v, rfl, hq _ _ hn⟩
  · refine h.mono ?_
    rintro e w'' ⟨v, rfl, hn⟩
    exact ⟨v, rfl, hq _ _ hn⟩
  · exact h.elim

/-- A call of 'yield' in a greater state. -/
theorem YldC.frame {l : Nat} {args : List AV} {S S' : AS} {x : AV} (h : YldC P l args S x S') (hs : SameLen S S') (hw : WfS S) (hl : l < S.lp.length) (ha : ∀ a ∈ args, Wf S.box.length S.own.length S.lp.length a) (G : AS) (hG : S'.own.length = S.own.length ∨ G.own = []) : YldC P l args (S.app G) x (S'.app G) := by
  refine ⟨fun o t f as Ts ho hok he hargs => ?_⟩
  have h1 := h.out o t f as Ts ho hok he hargs
  refine ⟨h1.1, fun rd K a w g1 g2 g3 => ?_⟩
  have h0 := g2.cutR hw
  have ht0 : TRo (K.cut S.box.length S.own.length S.lp.length) o t a := by
    refine ⟨fun y hy hm => (g1.ev y hy hm).cutK ?_⟩
    rw [ho] at hm
    simp only [Op.operands, Call.operands, List.mem_toArray, Array.mem_append, Array.mem_singleton] at hm
    rcases hm with hm | hm
    · have : y = f := by simpa using hm
      subst this; rw [he]; exact .yld hl
    · exact ha _ (by rw [← hargs]; exact List.mem_map.2 ⟨y, by simpa using hm, rfl⟩)
  refine resOk_mono (h1.2 rd _ a w ht0 h0 g3) ?_
  rintro v w' ⟨v', S1, K', ⟨rfl, rfl⟩, hv', hr', hx⟩
  obtain ⟨r1, r2⟩ := g2.merge hx hr' hs hG
  exact ⟨_, _, _, ⟨rfl, rfl⟩, hv'.back, r1, r2⟩

/-- A call that turns the state, walked; what it lays besides is dropped. -/
theorem CallC.walk (hm : P.follows .mixedOrders = true) (hT : ftOk P T) {f : FuncId} {fn : Func} {args : List AV} {S S1 : AS} {x : AV} (hF : FnOk P f fn) (hle : Nat.ble args.length fn.ntmps = true)
    (hlen : S.box.length ≤ S1.box.length ∧ S.own.length ≤ S1.own.length ∧ S.lp.length ≤ S1.lp.length) (hwx : Wf S1.box.length S1.own.length S1.lp.length x) (hwS : WfS S → WfS S1)
    (h : ∀ E : AV → AS → Prop, (∀ u G, VLe u x → E u (S1.app G)) → ∃ m tr, gF P T m fn args S tr (gfin2 P fn E)) : CallC P f args S x S1 := by
  have hle := Nat.le_of_ble_eq_true hle
  obtain ⟨m, tr, h⟩ := h (fun u S2 => VLe u x ∧ ∃ G, S2 = S1.app G) (fun u G hu => ⟨hu, G, rfl⟩)
  refine ⟨ACall.of_body hF.get hF.body hF.call (((gC_sound2 hm hT _ _ _ _ _ _ _ (OutF fun t' S2 => ∃ u, aresF P t' S2 fn.results.toList = some u ∧ VLe u x ∧ ∃ G, S2 = S1.app G) ?_ h).1 hF.code (args ++ List.replicate (fn.ntmps - args.length) (.tup [])) (by simp; omega) (by rw [lk_ini])).mono ?_)⟩
  · intro e st S tr h
    unfold gfin2 gret at h
    split at h
    · split at h
      · rename_i u hu; exact ⟨u, hu, h⟩
      · exact h.elim
    · split at h
      · rename_i u hu; exact ⟨u, hu, h⟩
      · exact h.elim
    · exact h.elim
  · rintro e t' S' ⟨hl, hq⟩
    cases e with
    | normal => obtain ⟨u, h1, h2, G, rfl⟩ := hq; exact ⟨u, x, S1, by rw [aresF_lk]; exact h1, h2, ⟨⟨G, rfl⟩, hlen.1, hlen.2.1, hlen.2.2, hwx, hwS⟩, rfl, rfl⟩
    | ret => obtain ⟨u, h1, h2, G, rfl⟩ := hq; exact ⟨u, x, S1, by rw [aresF_lk]; exact h1, h2, ⟨⟨G, rfl⟩, hlen.1, hlen.2.1, hlen.2.2, hwx, hwS⟩, rfl, rfl⟩
    | _ => exact hq.elim

/-! ### Ranges over functions -/

/-- A range over a function that runs to its end. -/
theorem RangeC.byN {f : Operand} {ps : Array Tmp} {x c : Code} {pre : List (Nat × AV)} {S S1 : AS} {g : FuncId} {fs cs : List AV} {u : AV} (hpre : ∀ st, Facts st pre → evF st f = .clo (.func g) fs cs) (hok : okConst f = true)
    (hs : SameLen S S1) (hwS : WfS S → WfS S1)
    (h : ∀ L st, LpIs n L st ps x c → Facts st pre → WfS (S.pushLp L) → CallC P g (fs ++ [.yld S.lp.length] ++ cs) (S.pushLp L) u (S1.pushLp L)) : RangeC P n f ps x c pre S [⟨True, .normal, [], some S1⟩] := by
  refine ⟨fun hm hg t hl hf => ?_⟩
  have hev : ev t f = .clo (.func g) fs cs := by rw [← evF_lk]; exact hpre _ hf
  intro rd B K a w h1 h2 h3 h4
  have hwS0 : WfS S := h2.wfS
  have key : AW P (.rangeFunc f ps x c) (fun e' t' S'' => e' = .normal ∧ t' = t ∧ ∃ G, S'' = S1.app G) t S := by
    have hL : LpIs n ⟨.ready, t, ps, x, c⟩ (lk t) ps x c := ⟨rfl, rfl, rfl, rfl, rfl, hl⟩
    have hcal : ACall P g (fs ++ [.yld S.lp.length] ++ cs) (S.pushLp ⟨.ready, t, ps, x, c⟩) (rangeQ P S.lp.length t (fun e' t' S'' => e' = .normal ∧ t' = t ∧ ∃ G, S'' = S1.app G)) := by
      have hwf : ∀ (hw : WfS (S.pushLp ⟨.ready, t, ps, x, c⟩)), ACall P g (fs ++ [.yld S.lp.length] ++ cs) (S.pushLp ⟨.ready, t, ps, x, c⟩) (rangeQ P S.lp.length t (fun e' t' S'' => e' = .normal ∧ t' = t ∧ ∃ G, S'' = S1.app G)) := by
        intro hw
        refine (h _ _ hL hf hw).out.mono ?_
        rintro v S' ⟨rfl, rfl⟩
        refine ⟨⟨.ready, t, ps, x, c⟩, ?_, rfl, rfl, ⟨[], [], [⟨.over, t, ps, x, c⟩]⟩, ?_⟩
        · simp only [AS.pushLp]; rw [← hs.lp, List.getElem?_append_right (Nat.le_refl _)]; simp
        · simp only [AS.pushLp, AS.setLp, AS.app, List.append_nil]
          rw [← hs.lp, List.set_append_right _ _ (Nat.le_refl _)]
          simp
      have hc : callable P g = true := by
        by_cases hw : WfS (S.pushLp ⟨.ready, t, ps, x, c⟩)
        · exact (hwf hw).1
        · exfalso
          refine hw ⟨fun b cs hb c hc => ?_, fun l L hl' c hc => ?_⟩
          · have := hwS0.box b cs (by simpa [AS.pushLp] using hb) c hc
            exact this.mono (Nat.le_refl _) (Nat.le_refl _) (by simp [AS.pushLp])
          · simp only [AS.pushLp] at hl'
            by_cases hlt : l < S.lp.length
            · rw [List.getElem?_append_left hlt] at hl'
              exact (hwS0.lp l L hl' c hc).mono (Nat.le_refl _) (Nat.le_refl _) (by simp [AS.pushLp])
            · rw [List.getElem?_append_right (by omega)] at hl'
              have : l - S.lp.length = 0 := by
                have := (List.getElem?_eq_some_iff.1 hl').1
                simp at this; omega
              rw [this] at hl'
              simp at hl'
              subst hl'
              obtain ⟨i, hi, rfl⟩ := List.mem_iff_getElem.1 hc
              have hr : i < a.tmps.size := by rw [← h1.1]; exact hi
              have := (h1.2 i _ _ (List.getElem?_eq_getElem hi) (Array.getElem?_eq_getElem hr)).wf
              rw [h2.nbox, h2.nown, h2.nlp] at this
              exact this.mono (Nat.le_refl _) (Nat.le_refl _) (by simp [AS.pushLp])
      exact ⟨hc, fun K w rs g1 g2 => (hwf g2.wfS).2 K w rs g1 g2⟩
    exact AW.rangeFunc hok hev hcal
  refine wpIn_mono (key rd B K a w h1 h2 h3 h4) ?_
  rintro e a' w' ⟨t', S', K', ⟨rfl, rfl, G, rfl⟩, k1, k2, k3, k4⟩
  have hwt : ∀ v ∈ t', Wf S.box.length S.own.length S.lp.length v := by
    intro v hv
    obtain ⟨i, hi, rfl⟩ := List.mem_iff_getElem.1 hv
    have hr : i < a.tmps.size := by rw [← h1.1]; exact hi
    have := (h1.2 i _ _ (List.getElem?_eq_getElem hi) (Array.getElem?_eq_getElem hr)).wf
    rwa [h2.nbox, h2.nown, h2.nlp] at this
  refine ⟨t', S1, K'.cut S1.box.length S1.own.length S1.lp.length, ⟨rfl, _, List.mem_singleton.2 rfl, trivial, rfl, trivial, fun S2 h => by cases h; rfl⟩, ⟨k1.1, fun i v r hv hr => (k1.2 i v r hv hr).cutK ?_⟩, k2.cutR (hwS hwS0), k3.cutE ?_ ?_ ?_, k4⟩
  · exact (hwt v (List.mem_of_getElem? hv)).mono (Nat.le_of_eq hs.box.symm) hs.own (Nat.le_of_eq hs.lp.symm)
  · rw [h2.nbox, hs.box]; exact Nat.le_refl _
  · rw [h2.nown]; exact hs.own
  · rw [h2.nlp, hs.lp]; exact Nat.le_refl _

/-- The end of a round of a range over a function. -/
def gyb (P : Program) (T : FT) (m n : Nat) (c : Code) (l : Nat) (L : ALoop) (E : AS → Prop) : KC
  | .normal, st, S, tr => S.lp[l]? = some L ∧ gC P T m n c st (S.setLp l { L with st := .busy }) tr fun
    | .normal, _, S2, _ => E S2
    | _, _, _, _ => False
  | _, _, _, _ => False

theorem YldC.by (hm : P.follows .mixedOrders = true) (hT : ftOk P T) {l : Nat} {L : ALoop} {st : St} {f : Operand} {ps : Array Tmp} {x c : Code} {args : List AV} {S S1 : AS} (hL : LpIs n L st ps x c) (hl : S.lp[l]? = some L) (hg : codeG P n (.rangeFunc f ps x c) = true) (hlen : args.length = ps.size)
    (hs : SameLen S S1) (hl1 : S1.lp[l]? = some L) (hwS : WfS S → WfS S1)
    (h : ∀ E : AS → Prop, (∀ G, E ((S1.setLp l { L with st := .busy }).app G)) → ∃ m tr, gC P T m n x (yldSt ps.toList args st) S tr (gyb P T m n c l L E)) : YldC P l args S (.sc (.bool true)) S1 := by
  refine ⟨fun o t fo as Ts ho hok he hargs => ?_⟩
  simp only [codeG, Bool.and_eq_true, List.all_eq_true] at hg
  obtain ⟨_, hps, hgx, hgc⟩ := hg
  have hps' : ∀ p ∈ ps.toList, p < L.t.length := fun p hp => by rw [hL.len]; exact Nat.le_of_ble_eq_true (hps p hp)
  obtain ⟨e1, e2⟩ := lk_yldT ps.toList args L.t hps'
  obtain ⟨m, tr, h⟩ := h (fun S2 => ∃ G, S2 = (S1.setLp l { L with st := .busy }).app G) (fun G => ⟨G, rfl⟩)
  have hllt : l < S1.lp.length := (List.getElem?_eq_some_iff.1 hl1).1
  have hround := (gC_sound2 hm hT m n x _ S tr _ (fun e st1 S' => e = .normal ∧ S'.lp[l]? = some L ∧ ∃ tr, gC P T m n c st1 (S'.setLp l { L with st := .busy }) tr fun
      | .normal, _, S2, _ => ∃ G, S2 = (S1.setLp l { L with st := .busy }).app G
      | _, _, _, _ => False) (by
    intro e st1 S' tr h
    unfold gyb at h
    split at h
    · exact ⟨rfl, h.1, tr, h.2⟩
    · exact h.elim) h).1 hgx (yldT ps args L.t) (e2.trans hL.len) (e1.trans (by rw [hL.t]))
  have hay : AYield P l args S (fun v S2 => v = .sc (.bool true) ∧ ∃ G, S2 = S1.app G) := by
    refine ⟨L, hl, by rw [hL.params]; exact hlen, ?_⟩
    rw [hL.assign, hL.body, hL.params]
    refine hround.mono ?_
    rintro e t1 S' ⟨hl1', rfl, hq, tr', hrun⟩
    refine ⟨L, hq, hL.ready, ?_⟩
    refine ((gC_sound2 hm hT m n c _ _ tr' _ (fun e st2 S2 => e = .normal ∧ ∃ G, S2 = (S1.setLp l { L with st := .busy }).app G) (by
      intro e st2 S2 tr h
      split at h
      · exact ⟨rfl, h⟩
      · exact h.elim) hrun).1 hgc t1 hl1' rfl).mono ?_
    rintro e t2 S2 ⟨hl2, rfl, G, rfl⟩
    have hr : ({ ({ L with st := .busy } : ALoop) with st := .ready } : ALoop) = L := by
      have := hL.ready
      cases L
      simp only at this
      subst this
      rfl
    refine ⟨{ L with st := .busy }, ?_, rfl, G, ?_⟩
    · simp only [AS.setLp, AS.app]
      rw [List.getElem?_append_left (by simpa using hllt), List.getElem?_set_self hllt]
    · rw [hr]
      simp only [AS.setLp, AS.app]
      rw [List.set_append_left _ _ (by simpa using hllt), List.set_set]
      have : S1.lp.set l L = S1.lp := by
        apply List.ext_getElem?
        intro i
        by_cases hi : i = l
        · subst hi; rw [List.getElem?_set_self hllt, hl1]
        · rw [List.getElem?_set_ne (Ne.symm hi)]
      rw [this]
  have hop : AOp P o t S (fun v S2 => v = .sc (.bool true) ∧ ∃ G, S2 = S1.app G) := by
    refine AOp.yield ho (okOp_mem hok (by rw [ho]; simp [Op.operands, Call.operands])) ?_ he (by rw [hargs]; exact hay)
    simp only [Array.all_eq_true']
    exact fun y hy => okOp_mem hok (by rw [ho]; simp [Op.operands, Call.operands, hy])
  refine ⟨hop.1, fun rd K a w g1 g2 g3 => resOk_mono (hop.2 rd K a w g1 g2 g3) ?_⟩
  rintro rv w' ⟨v, S2, K', ⟨rfl, G, rfl⟩, q1, q2, q3⟩
  refine ⟨_, S1, K'.cut S1.box.length S1.own.length S1.lp.length, ⟨rfl, rfl⟩, q1.cutK .sc, q2.cutR (hwS g2.wfS), q3.cutE ?_ ?_ ?_⟩
  · rw [g2.nbox, hs.box]; exact Nat.le_refl _
  · rw [g2.nown]; exact hs.own
  · rw [g2.nlp, hs.lp]; exact Nat.le_refl _

end
end Go.Proofs.Ytfjeopaaplnoaaa.Av
