/-
  THE ABSTRACT WALK: the operations, one by one (4): structs and slices built, calls, len, min, max.
-/
import Derived.Test.YtfjeopaaplnoaaaAvF
namespace Go.Proofs.Ytfjeopaaplnoaaa.Av
open Go Go.RowKit
set_option linter.unusedSimpArgs false

/-! ### Parts laid into cells -/

theorem foldl_splice (off : Nat) : ∀ (l : List Value) (k : Nat) (cells : Array Value), off + k + l.length ≤ cells.size →
    ((l.zipIdx k).foldl (fun (cs : Array Value) (p : Value × Nat) => cs.setIfInBounds (off + p.2) p.1) cells).toList = splice cells.toList (off + k) l
  | [], k, cells, _ => by simp [splice]
  | v :: l, k, cells, h => by
    simp only [List.length_cons] at h
    simp only [List.zipIdx_cons, List.foldl_cons]
    rw [foldl_splice off l (k + 1) _ (by simp; omega)]
    apply List.ext_getElem?
    intro i
    rw [get_splice (by simp; omega), get_splice (by simp; omega)]
    simp only [List.length_cons, Array.toList_setIfInBounds]
    by_cases h1 : off + k ≤ i ∧ i < off + k + (l.length + 1)
    · rw [if_pos h1]
      by_cases h2 : i = off + k
      · subst h2
        rw [if_neg (by omega), List.getElem?_set_self (by simp; omega)]
        simp
      · rw [if_pos (by omega)]
        have : i - (off + k) = (i - (off + (k + 1))) + 1 := by omega
        rw [this, List.getElem?_cons_succ]
    · rw [if_neg h1, if_neg (by omega), List.getElem?_set_ne (by omega)]

theorem fill_one (off : Nat) (v : Value) (cells : Array Value) (h : off + v.cells.size ≤ cells.size) :
    v.cells.zipIdx.foldl (fun cs (c, j) => cs.setIfInBounds (off + j) c) cells = (splice cells.toList off v.cells.toList).toArray := by
  have := foldl_splice off v.cells.toList 0 cells (by simpa using h)
  rw [Nat.add_zero] at this
  rw [← this, Array.toArray_toList, ← Array.foldl_toList, Array.toList_zipIdx]

def afill (pl : List (Nat × Nat)) : List AV → List (Nat × AV) → Option (List AV)
  | cs, [] => some cs
  | cs, (i, v) :: rest => match pl[i]? with
    | some (off, size) => if v.isTup = false ∧ v.cells.length = size ∧ off + size ≤ cs.length then afill pl (splice cs off v.cells) rest else none
    | none => none

theorem afill_run {K : KW} {pl : List (Nat × Nat)} {place : Nat → Option (Nat × Nat)} (hpl : ∀ (i : Nat) q, pl[i]? = some q → place i = some q) :
    ∀ (ps : List (Nat × AV)) (rs : List (Nat × Value)) (cs cs' : List AV) (cells : Array Value), ps.length = rs.length → (∀ (i : Nat) p r, ps[i]? = some p → rs[i]? = some r → p.1 = r.1 ∧ VR K p.2 r.2) →
      BoxR K cs cells → afill pl cs ps = some cs' → ∃ cells', Instr.fill place cells rs = some cells' ∧ BoxR K cs' cells'
  | [], rs, cs, cs', cells, hl, _, hb, h => by
    have : rs = [] := List.eq_nil_of_length_eq_zero hl.symm
    subst this
    simp only [afill, Option.some.injEq] at h
    subst h
    exact ⟨cells, rfl, hb⟩
  | (i, v) :: ps, [], _, _, _, hl, _, _, _ => by simp at hl
  | (i, v) :: ps, (j, r) :: rs, cs, cs', cells, hl, hr, hb, h => by
    obtain ⟨he, hv⟩ := hr 0 (i, v) (j, r) rfl rfl
    simp only at he hv
    subst he
    simp only [afill] at h
    split at h
    · rename_i off size hp
      split at h
      · rename_i hc
        obtain ⟨ht, hn, hle⟩ := hc
        have hbv := boxR_cells hv (AV.not_tup ht)
        have hsz : r.cells.size = size := by rw [← hbv.1, hn]
        have hle' : off + r.cells.size ≤ cells.size := by rw [hsz, ← hb.1]; exact hle
        obtain ⟨cells', k1, k2⟩ := afill_run hpl ps rs _ cs' _ (by simpa using hl) (fun q p s h1 h2 => hr (q + 1) p s h1 h2) (hb.splice hbv (by rw [hn]; exact hle)) h
        refine ⟨cells', ?_, k2⟩
        simp only [Instr.fill, hpl _ _ hp]
        rw [if_neg (by simp [hsz]; omega)]
        rw [← fill_one off r cells hle'] at k1
        exact k1
      · cases h
    · cases h

def aplaces (P : Program) (T : TypeId) : Option (List (Nat × Nat)) :=
  match P.underlying T with
  | some (.struct fs) => fs.toList.mapM fun f => (P.info? f.type).map fun i => (f.offset, i.size)
  | some (.array n e) => (P.info? e).map fun i => (List.range n).map fun k => (k * i.size, i.size)
  | _ => none

theorem mapM_places {P : Program} : ∀ (fs : List Field) (pl : List (Nat × Nat)) (w : World), fs.mapM (fun f => (P.info? f.type).map fun i => (f.offset, i.size)) = some pl →
    (fs.mapM (fun f => do pure (f.offset, ← sizeOf f.type) : Field → Sem (Nat × Nat))).run P w = .ok pl w
  | [], pl, w, h => by simp at h; subst h; rfl
  | f :: fs, pl, w, h => by
    simp only [List.mapM_cons, Option.bind_eq_bind, Option.bind_eq_some_iff, Option.map_eq_some_iff, Option.pure_def, Option.some.injEq] at h
    obtain ⟨q, ⟨i, hi, rfl⟩, pl', h2, rfl⟩ := h
    have := mapM_places fs pl' w h2
    simp only [List.mapM_cons, Sem.run_bind, sizeOf, typeInfo, run_program, Result.andThen_ok, hi, Sem.run_pure]
    simp only [sizeOf, typeInfo] at this
    rw [this]
    rfl

def abuild (P : Program) (T : TypeId) (parts : List (Nat × AV)) : Option AV :=
  match azero P T, aplaces P T with
  | some z, some pl => (afill pl z parts).map .agg
  | _, _ => none

section
variable {P : Program} {o : Oper} {t : List AV} {S : AS} {Kp : AV → AS → Prop}

theorem parts_rel {K : KW} {a : Act} (h1 : TRo K o t a) {parts : Array (Nat × Operand)} (hp : parts.all (fun q => okConst q.2) = true) (hm : ∀ q ∈ parts, q.2 ∈ o.op.operands) :
    ((parts.toList.map fun q => (q.1, ev t q.2)).length = ((parts.map fun q => (q.1, a.eval q.2)).toList).length) ∧
    ∀ (i : Nat) (p : Nat × AV) (r : Nat × Value), (parts.toList.map fun q => (q.1, ev t q.2))[i]? = some p → ((parts.map fun q => (q.1, a.eval q.2)).toList)[i]? = some r → p.1 = r.1 ∧ VR K p.2 r.2 := by
  refine ⟨by simp, fun i p r hp' hr => ?_⟩
  simp only [Array.toList_map, List.getElem?_map, Option.map_eq_some_iff] at hp' hr
  obtain ⟨q, hq, rfl⟩ := hp'
  obtain ⟨q', hq', rfl⟩ := hr
  rw [hq] at hq'; cases hq'
  have hq' : q ∈ parts := Array.mem_of_getElem? (by simpa using hq)
  refine ⟨rfl, h1.ev q.2 ?_ (hm q hq')⟩
  simp only [Array.all_eq_true'] at hp
  exact hp q hq'

theorem AOp.build {T : TypeId} {parts : Array (Nat × Operand)} {v : AV} (ho : o.op = .build T parts) (hp : parts.all (fun q => okConst q.2) = true)
    (hb : abuild P T (parts.toList.map fun q => (q.1, ev t q.2)) = some v) (h : Kp v S) : AOp P o t S Kp := by
  refine AOp.val (by simp [ho]) h fun K a w h1 _ => ?_
  obtain ⟨hl, hr⟩ := parts_rel h1 hp (fun q hq => by rw [ho]; simp only [Op.operands, List.mem_toArray]; exact List.mem_map.2 ⟨q, by simpa using hq, rfl⟩)
  unfold abuild at hb
  split at hb
  · rename_i z pl hz hpl
    simp only [Option.map_eq_some_iff] at hb
    obtain ⟨cs, hf, rfl⟩ := hb
    obtain ⟨zv, hz1, hz2⟩ := azero_run hz w
    unfold aplaces at hpl
    split at hpl
    · rename_i fs hu
      obtain ⟨cells, k1, k2⟩ := afill_run (K := K) (place := (pl.toArray[·]?)) (fun i q hq => by simpa using hq) _ _ z cs zv.cells hl hr (hz2 K) hf
      have hm := mapM_places fs.toList pl w hpl
      refine ⟨.agg cells, ?_, .agg k2.1 k2.2.1 k2.2.2⟩
      simp only [execOp, ho, Instr.build, Sem.run_bind, hz1, Result.andThen_ok, run_underlying hu, Array.mapM_eq_mapM_toList, Sem.run_map, hm]
      rw [k1]
      rfl
    · rename_i n e hu
      simp only [Option.map_eq_some_iff] at hpl
      obtain ⟨i, hi, rfl⟩ := hpl
      obtain ⟨cells, k1, k2⟩ := afill_run (K := K) (place := fun k => some (k * i.size, i.size)) (fun k q hq => by
        simp only [List.getElem?_map, Option.map_eq_some_iff] at hq
        obtain ⟨k', hk', rfl⟩ := hq
        obtain ⟨hlt, he⟩ := List.getElem?_eq_some_iff.1 hk'
        rw [List.getElem_range] at he
        subst he
        rfl) _ _ z cs zv.cells hl hr (hz2 K) hf
      refine ⟨.agg cells, ?_, .agg k2.1 k2.2.1 k2.2.2⟩
      simp only [execOp, ho, Instr.build, Sem.run_bind, hz1, Result.andThen_ok, run_underlying hu, sizeOf, typeInfo, run_program, hi, Sem.run_pure]
      rw [k1]
      rfl
    · cases hpl
  · cases hb

end
end Go.Proofs.Ytfjeopaaplnoaaa.Av
