/-
  THE JOIN: arguments that can be read as data stand for abstract values; a law that says true on these holds as its row says.
-/
import Derived.Test.YtfjeopaaplnoaaaRows
import Derived.Test.YtfjeopaaplnoaaaAvU
import Derived.ProofKit
import Derived.OpenShut
import Derived.ChangeOld
import Derived.SizedLaws
import Derived.Carry
import Derived.Deep.Slices
namespace Go.Proofs.Ytfjeopaaplnoaaa.Av
open Go Go.RowKit Go.ChangeShapes Go.WideShapes
set_option linter.unusedSimpArgs false
set_option linter.unusedVariables false

/-- Kinds of plain cells, and of cells. -/
inductive FK where
  | int (k : IntKind)
  | bool
  | str
inductive LK where
  | f (k : FK)
  | sl (g : Bool) (ks : List FK)

def LK.flat? : LK → Option FK
  | .f k => some k
  | _ => none

def isAggT (P : Program) (T : TypeId) : Bool := match P.underlying T with
  | some (.struct _) | some (.array _ _) => true
  | _ => false

/-- The cells of a type, each with its place. -/
def leafs (P : Program) : Nat → TypeId → Option (List (Nat × LK))
  | 0, _ => none
  | d + 1, T => match P.underlying T with
    | some (.int k) => some [(0, .f (.int k))]
    | some .bool => some [(0, .f .bool)]
    | some .string => some [(0, .f .str)]
    | some (.slice e) => match leafs P d e with
      | some ls => match ls.mapM (fun q => q.2.flat?) with
        | some ks => if ls.map (·.1) = List.range (P.cellsOf e) ∧ (isAggT P e = false → ks.length = 1) then some [(0, .sl (isAggT P e) ks)] else none
        | none => none
      | none => none
    | some (.struct fs) => (fs.toList.mapM fun f => (leafs P d f.type).map fun ls => ls.map fun q => (f.offset + q.1, q.2)).map List.flatten
    | some (.array n e) => (leafs P d e).map fun ls => (List.range n).flatMap fun i => ls.map fun q => (i * P.cellsOf e + q.1, q.2)
    | _ => none

def FlatV : FK → Value → Prop
  | .int k, v => ∃ n, v = .int k n ∧ (Lit.int k n).wf = true
  | .bool, v => ∃ b, v = .bool b
  | .str, v => ∃ s, v = .string s ∧ s.size ≤ maxLen
def LeafV (W : World) : LK → Value → Prop
  | .f k, v => FlatV k v
  | .sl g ks, v => v = .slice none 0 0 ∨ ∃ a len cap, v = .slice (some a) len cap ∧ len ≤ cap ∧ cap ≤ maxLen ∧
      ∀ i, i < len → ∀ j k, ks[j]? = some k → ∃ u, W.cell? (a.add (i * ks.length + j)) = some u ∧ FlatV k u

theorem mapM_get {α β : Type} {f : α → Option β} : ∀ {l : List α} {r : List β}, l.mapM f = some r → r.length = l.length ∧ ∀ (i : Nat) a, l[i]? = some a → f a = r[i]?
  | [], r, h => by simp at h; subst h; simp
  | a :: l, r, h => by
    simp only [List.mapM_cons, Option.bind_eq_bind, Option.bind_eq_some_iff, Option.pure_def, Option.some.injEq] at h
    obtain ⟨b, hb, bs, hbs, rfl⟩ := h
    obtain ⟨h1, h2⟩ := mapM_get hbs
    refine ⟨by simp [h1], fun i x hx => ?_⟩
    cases i with
    | zero => simp at hx; subst hx; simpa using hb
    | succ i => simpa using h2 i x (by simpa using hx)

section
variable {H : Type} {enc : TypeId × Value → H} {P : Program} {W : World} {sp : Nat → Bool}

theorem flat_of_leaf {k : LK} {q : FK} {v : Value} (h : LeafV W k v) (hq : k.flat? = some q) : FlatV q v := by
  cases k with
  | f k => simp only [LK.flat?, Option.some.injEq] at hq; subst hq; exact h
  | sl g ks => cases hq

theorem trod_leafs : ∀ (d : Nat) (T : TypeId) (ls : List (Nat × LK)), leafs P d T = some ls → ∀ (n : Nat) (cs : List Value) (r : DataW H × List MemPlace), DataW.trod enc P W 0 sp true n T cs = some r →
    (∀ q ∈ ls, ∃ v, cs[q.1]? = some v ∧ LeafV W q.2 v) ∧ (isAggT P T = true → cs.length = P.cellsOf T) ∧ (isAggT P T = false → cs.length = 1)
  | 0, T, ls, h => by cases h
  | d + 1, T, ls, h => by
    intro n cs r ht
    unfold leafs at h
    unfold isAggT
    split at h
    · rename_i k hu
      obtain ⟨x, rfl, _, hw⟩ := DataW.trod_int hu ht
      cases h
      simp only [hu]
      exact ⟨by simpa using ⟨x, rfl, hw⟩, by simp, by simp⟩
    · rename_i hu
      obtain ⟨x, rfl, _⟩ := DataW.trod_bool hu ht
      cases h
      simp only [hu]
      exact ⟨by simpa using ⟨x, rfl⟩, by simp, by simp⟩
    · rename_i hu
      obtain ⟨x, rfl, _, hw⟩ := DataW.trod_string hu ht
      cases h
      simp only [hu]
      exact ⟨by simpa using ⟨x, rfl, hw⟩, by simp, by simp⟩
    · rename_i e hu
      split at h
      · rename_i ls' hl
        split at h
        · rename_i ks hks
          split at h
          · rename_i hc
            cases h
            simp only [hu]
            obtain ⟨hk1, hk2⟩ := mapM_get hks
            have hlen : ks.length = P.cellsOf e := by rw [hk1]; simpa using congrArg List.length hc.1
            rcases Go.Deep.open_slice hu ht with ⟨rfl, _⟩ | ⟨a, len, cap, m, n', D, Pl, rfl, _, hle, hcap, hm, _, hx⟩
            · exact ⟨by simp [LeafV], by simp, by simp⟩
            · refine ⟨fun q hq => ?_, by simp, by simp⟩
              simp only [List.mem_singleton] at hq
              subst hq
              refine ⟨_, rfl, .inr ⟨a, len, cap, rfl, hle, hcap, fun i hi j k hk => ?_⟩⟩
              have him : i < m := by rw [hm]; split <;> omega
              obtain ⟨cs', h1, h2⟩ := hx i him
              obtain ⟨h3, _⟩ := trod_leafs d e ls' hl n' cs' _ h2
              obtain ⟨_, hcl, hcell⟩ := World.cells?_some h1
              have hj : j < ls'.length := by rw [← hk1]; exact (List.getElem?_eq_some_iff.1 hk).1
              obtain ⟨v, hv, hlv⟩ := h3 _ (List.getElem_mem hj)
              have hoff : (ls'[j]).1 = j := by
                have : (ls'.map (·.1))[j]? = (List.range (P.cellsOf e))[j]? := by rw [hc.1]
                simp only [List.getElem?_map, List.getElem?_eq_getElem hj, Option.map_some] at this
                rw [List.getElem?_range (by omega)] at this
                simpa using this
              rw [hoff] at hv
              refine ⟨v, ?_, flat_of_leaf hlv ?_⟩
              · rw [hlen, ← Go.Deep.add_add, hcell j (by omega), hv]
              · have := hk2 j _ (List.getElem?_eq_getElem hj)
                rw [this, hk]
          · cases h
        · cases h
      · cases h
    · rename_i fs hu
      simp only [hu]
      obtain ⟨xs, n', rfl, _, hcl, hxl, hf⟩ := DataW.trod_struct hu ht
      refine ⟨fun q hq => ?_, fun _ => hcl, by simp⟩
      simp only [Option.map_eq_some_iff] at h
      obtain ⟨lss, hlss, rfl⟩ := h
      obtain ⟨h1, h2⟩ := mapM_get hlss
      simp only [List.mem_flatten] at hq
      obtain ⟨l, hl, hq⟩ := hq
      obtain ⟨i, hi, rfl⟩ := List.mem_iff_getElem.1 hl
      have hi' : i < fs.toList.length := by omega
      have h3 := h2 i _ (List.getElem?_eq_getElem hi')
      rw [List.getElem?_eq_getElem hi] at h3
      simp only [Option.map_eq_some_iff] at h3
      obtain ⟨ls', hls', hmap⟩ := h3
      rw [← hmap] at hq
      simp only [List.mem_map] at hq
      obtain ⟨q', hq', rfl⟩ := hq
      have hfi : fs[i]? = some (fs.toList[i]) := by rw [← Array.getElem?_toList, List.getElem?_eq_getElem hi']
      have ht' := hf i _ hfi
      have hxi : i < xs.length := by rw [hxl]; simpa using hi'
      rw [List.getElem?_eq_getElem hxi] at ht'
      obtain ⟨v, hv, hlv⟩ := (trod_leafs d _ ls' hls' n' _ _ ht').1 q' hq'
      refine ⟨v, ?_, hlv⟩
      rw [List.getElem?_take] at hv
      split at hv
      · rw [List.getElem?_drop] at hv; exact hv
      · cases hv
    · rename_i m e hu
      simp only [hu]
      obtain ⟨xs, n', hx1, hx, hcl, hxl, hf⟩ := DataW.trod_array hu ht
      refine ⟨fun q hq => ?_, fun _ => hcl, by simp⟩
      simp only [Option.map_eq_some_iff] at h
      obtain ⟨ls', hls', rfl⟩ := h
      simp only [List.mem_flatMap, List.mem_range, List.mem_map] at hq
      obtain ⟨i, hi, q', hq', rfl⟩ := hq
      have ht' := hf i hi
      have hxi : i < xs.length := by omega
      rw [List.getElem?_eq_getElem hxi] at ht'
      obtain ⟨v, hv, hlv⟩ := (trod_leafs d _ ls' hls' n' _ _ ht').1 q' hq'
      refine ⟨v, ?_, hlv⟩
      rw [List.getElem?_take] at hv
      split at hv
      · rw [List.getElem?_drop] at hv; exact hv
      · cases hv
    · cases h

end

/-! ### The abstract values -/

def wrapA (g : Bool) (cs : List AV) : AV := if g then .agg cs else cs.headD (.tup [])

def FlatA : FK → AV → Prop
  | .int k, c => ∃ n, c = .sc (.int k n) ∧ (Lit.int k n).wf = true
  | .bool, c => ∃ b, c = .sc (.bool b)
  | .str, c => ∃ s, c = .sc (.string s) ∧ s.size ≤ maxLen
def FlatAs : List FK → List AV → Prop
  | [], [] => True
  | k :: ks, c :: cs => FlatA k c ∧ FlatAs ks cs
  | _, _ => False
def LeafA : LK → AV → Prop
  | .f k, c => FlatA k c
  | .sl g ks, c => c = .sc (.slice none 0 0) ∨ ∃ xs, c = .sl .ro ks.length xs ∧ xs.length ≤ maxLen ∧ ∀ x ∈ xs, ∃ ys, x = wrapA g ys ∧ FlatAs ks ys
def LeafAs : List LK → List AV → Prop
  | [], [] => True
  | k :: ks, c :: cs => LeafA k c ∧ LeafAs ks cs
  | _, _ => False

def K0 (W : World) : KW := ⟨[], [], [], fun B => match W.heap[B]? with
  | some (.cells cs _ _) => cs.toList
  | _ => []⟩

theorem RR.start (W : World) : RR (K0 W) ⟨[], [], []⟩ W := by
  refine ⟨rfl, rfl, rfl, fun b cs r h => by simp at h, by simp [K0], fun r h => by simp [K0] at h, fun B hB => ?_, fun t B en m e h => by simp [K0] at h, fun t B en m e h => by simp [K0] at h, by simp [K0], fun l L r h => by simp at h, by simp [K0]⟩
  simp only [K0] at hB ⊢
  split at hB
  · rename_i cs T fr e
    exact ⟨cs, T, fr, e, by simp [e]⟩
  · exact absurd rfl hB

theorem pub_of_cell {W : World} {a : Addr} {n : Nat} {v : Value} (h : W.cell? (a.add n) = some v) (hs : a.spot = none) : ((K0 W).pub a.block)[a.off + n]? = some v := by
  obtain ⟨b, off, spot⟩ := a
  simp only at hs
  subst hs
  rw [Addr.add_lit] at h
  unfold World.cell? at h
  simp only [K0]
  split at h
  · rename_i cs T fr e
    simp only at e
    simp only [e]
    simpa using h
  · simp at h

def spotOk (v : Value) : Prop := ∀ a len cap, v = .slice (some a) len cap → a.spot = none

theorem flat_sc {k : FK} {v : Value} (h : FlatV k v) : FlatA k (.sc v) ∧ vflat v = true := by
  cases k with
  | int k => obtain ⟨n, rfl, hw⟩ := h; exact ⟨⟨n, rfl, hw⟩, rfl⟩
  | bool => obtain ⟨b, rfl⟩ := h; exact ⟨⟨b, rfl⟩, rfl⟩
  | str => obtain ⟨s, rfl, hw⟩ := h; exact ⟨⟨s, rfl, hw⟩, rfl⟩

theorem flatAs_mk : ∀ (ks : List FK) (cs : List AV), cs.length = ks.length → (∀ (j : Nat) k c, ks[j]? = some k → cs[j]? = some c → FlatA k c) → FlatAs ks cs
  | [], [], _, _ => trivial
  | k :: ks, c :: cs, hl, h => ⟨h 0 k c rfl rfl, flatAs_mk ks cs (by simpa using hl) (fun j k c h1 h2 => h (j + 1) k c (by simpa using h1) (by simpa using h2))⟩
  | [], _ :: _, hl, _ => by simp at hl
  | _ :: _, [], hl, _ => by simp at hl
theorem leafAs_mk : ∀ (ks : List LK) (cs : List AV), cs.length = ks.length → (∀ (j : Nat) k c, ks[j]? = some k → cs[j]? = some c → LeafA k c) → LeafAs ks cs
  | [], [], _, _ => trivial
  | k :: ks, c :: cs, hl, h => ⟨h 0 k c rfl rfl, leafAs_mk ks cs (by simpa using hl) (fun j k c h1 h2 => h (j + 1) k c (by simpa using h1) (by simpa using h2))⟩
  | [], _ :: _, hl, _ => by simp at hl
  | _ :: _, [], hl, _ => by simp at hl

/-- The kinds of slices that do not stand for structs have one cell an element. -/
def LK.good : LK → Bool
  | .f _ => true
  | .sl g ks => g || ks.length == 1

theorem leaf_av {W : World} {k : LK} {v : Value} (h : LeafV W k v) (hs : spotOk v) (hg : k.good = true) : ∃ c, LeafA k c ∧ c.single = true ∧ VR (K0 W) c v := by
  cases k with
  | f k =>
    obtain ⟨h1, h2⟩ := flat_sc h
    exact ⟨.sc v, h1, rfl, .sc h2⟩
  | sl g ks =>
    rcases h with rfl | ⟨a, len, cap, rfl, hle, hcap, hx⟩
    · exact ⟨.sc (.slice none 0 0), .inl rfl, rfl, .sc rfl⟩
    · have hsp := hs a len cap rfl
      let val (i j : Nat) : Value := (W.cell? (a.add (i * ks.length + j))).getD undef
      have hval : ∀ i, i < len → ∀ j k, ks[j]? = some k → W.cell? (a.add (i * ks.length + j)) = some (val i j) ∧ FlatV k (val i j) := by
        intro i hi j k hk
        obtain ⟨u, h1, h2⟩ := hx i hi j k hk
        have : val i j = u := by simp [val, h1]
        rw [this]; exact ⟨h1, h2⟩
      let ys (i : Nat) : List AV := (List.range ks.length).map fun j => .sc (val i j)
      have hys : ∀ i, (ys i).length = ks.length := fun i => by simp [ys]
      have hget : ∀ (i j : Nat) c, (ys i)[j]? = some c → j < ks.length ∧ c = .sc (val i j) := by
        intro i j c hc
        have hj : j < ks.length := by rw [← hys i]; exact (List.getElem?_eq_some_iff.1 hc).1
        refine ⟨hj, ?_⟩
        simp only [ys, List.getElem?_map, List.getElem?_range hj, Option.map_some, Option.some.injEq] at hc
        exact hc.symm
      have hcells : ∀ i, (wrapA g (ys i)).cells = ys i := by
        intro i
        unfold wrapA
        cases g with
        | true => rfl
        | false =>
          have h1 : ks.length = 1 := by simpa [LK.good] using hg
          simp only [ys, h1]
          rfl
      refine ⟨.sl .ro ks.length ((List.range len).map fun i => wrapA g (ys i)), .inr ⟨_, rfl, by simp; omega, fun x hx => ?_⟩, rfl, ?_⟩
      · simp only [List.mem_map, List.mem_range] at hx
        obtain ⟨i, hi, rfl⟩ := hx
        refine ⟨ys i, rfl, flatAs_mk _ _ (hys i) fun j k c hk hc => ?_⟩
        obtain ⟨_, rfl⟩ := hget i j c hc
        exact (flat_sc (hval i hi j k hk).2).1
      · have key : ∀ (i : Nat) (x : AV), ((List.range len).map fun i => wrapA g (ys i))[i]? = some x → i < len ∧ x = wrapA g (ys i) := by
          intro i x hx
          have hi : i < len := by simpa using (List.getElem?_eq_some_iff.1 hx).1
          refine ⟨hi, ?_⟩
          simp only [List.getElem?_map, List.getElem?_range hi, Option.map_some, Option.some.injEq] at hx
          exact hx.symm
        refine .sl (fun i j => val i j) hsp (by simp) hle (fun x hx => ?_) (fun i x j c hx hc => ?_) (fun i x j c hx hc => ?_) (fun i x j c hx hc => ?_) trivial
        · simp only [List.mem_map, List.mem_range] at hx
          obtain ⟨i, hi, rfl⟩ := hx
          rw [hcells, hys]
        · obtain ⟨hi, rfl⟩ := key i x hx
          rw [hcells] at hc
          obtain ⟨hj, rfl⟩ := hget i j c hc
          obtain ⟨h1, _⟩ := hval i hi j _ (List.getElem?_eq_getElem hj)
          have := pub_of_cell h1 hsp
          rwa [← Nat.add_assoc] at this
        · obtain ⟨hi, rfl⟩ := key i x hx
          rw [hcells] at hc
          obtain ⟨hj, rfl⟩ := hget i j c hc
          rfl
        · obtain ⟨hi, rfl⟩ := key i x hx
          rw [hcells] at hc
          obtain ⟨hj, rfl⟩ := hget i j c hc
          exact .sc (flat_sc (hval i hi j _ (List.getElem?_eq_getElem hj)).2).2

theorem cell_spot {P : Program} {w : World} {r : Reach} {base : Nat} {t : TypeId} {v : Value} (h : Cell.okWide P w r base t v) : spotOk v := by
  rintro a len cap rfl
  unfold Cell.okWide at h
  split at h
  all_goals first
    | (rename_i e1 e2; cases e2; done)
    | skip
  all_goals try (rename_i e; cases e; done)
  unfold Cell.ok at h
  split at h
  all_goals first
    | exact h.elim
    | (rename_i e; cases e; done)
    | skip
  rename_i e
  cases e
  exact h.2.2.2.1

/-- What is asked of a parameter's type: by the kernel. -/
def parOk (P : Program) (T : TypeId) (ks : List LK) : Bool :=
  match leafs P 12 T with
  | some ls => decide (ls.map (·.1) = List.range (if isAggT P T then P.cellsOf T else 1)) && (ls.map (·.2)).all LK.good && P.readableRec T && decide (T < P.types.size)
  | none => false
def parKs (P : Program) (T : TypeId) : List LK := ((leafs P 12 T).getD []).map (·.2)

section
variable {H : Type} {enc : TypeId × Value → H} {P : Program} {W : World}

theorem arg_av {T : TypeId} {v : Value} {d : DataW H} {p : List MemPlace} {r : Reach} {base : Nat} (hok : parOk P T (parKs P T) = true) (ho : Value.okWide P W r base T v) (h : DataW.Trod enc P W 0 (fun _ => true) true T v d p) :
    ∃ cs, LeafAs (parKs P T) cs ∧ VR (K0 W) (wrapA (isAggT P T) cs) v := by
  unfold parOk at hok
  split at hok
  · rename_i ls hls
    simp only [Bool.and_eq_true, decide_eq_true_eq, List.all_eq_true] at hok
    obtain ⟨⟨⟨h1, h2⟩, _⟩, _⟩ := hok
    have hks : parKs P T = ls.map (·.2) := by simp [parKs, hls]
    rw [hks]
    obtain ⟨fuel, hf⟩ := h
    obtain ⟨g1, g2, g3⟩ := trod_leafs 12 T ls hls fuel _ _ hf
    have hlen : ls.length = v.cells.toList.length := by
      have hlr : ls.length = (if isAggT P T then P.cellsOf T else 1) := by simpa using congrArg List.length h1
      rw [hlr]
      cases ha : isAggT P T with
      | true => rw [g2 ha]; rfl
      | false => rw [g3 ha]; rfl
    -- the value's cells, and where they lie
    have hcells : (isAggT P T = true ∧ v = .agg v.cells ∧ ∀ (i : Nat) u, v.cells[i]? = some u → spotOk u) ∨ (isAggT P T = false ∧ v.cells = #[v] ∧ spotOk v) := by
      unfold Value.okWide at ho
      cases ha : isAggT P T with
      | true =>
        left
        unfold isAggT at ha
        split at ha
        · rename_i fs hu
          rw [hu] at ho
          obtain ⟨cs, rfl, _, ts, _, _, hc⟩ := ho
          exact ⟨rfl, rfl, fun i u hu => let ⟨_, _, q⟩ := hc i u hu; cell_spot q⟩
        · rename_i n e hu
          rw [hu] at ho
          obtain ⟨cs, rfl, _, ts, _, _, hc⟩ := ho
          exact ⟨rfl, rfl, fun i u hu => let ⟨_, _, q⟩ := hc i u hu; cell_spot q⟩
        · cases ha
      | false =>
        right
        have hc : Cell.okWide P W r base T v := by
          split at ho
          · rename_i fs hu; simp [isAggT, hu] at ha
          · rename_i n e hu; simp [isAggT, hu] at ha
          · exact ho
        have h1c := g3 ha
        refine ⟨rfl, ?_, cell_spot hc⟩
        cases v with
        | agg cs =>
          exfalso
          unfold Cell.okWide at hc
          split at hc
          all_goals first
            | (rename_i e1 e2; cases e2; done)
            | skip
          all_goals try (rename_i e; cases e; done)
          unfold Cell.ok at hc
          split at hc
          all_goals first
            | exact hc.elim
            | (rename_i e; cases e; done)
        | _ => rfl
    have hleaf : ∀ (j : Nat) (hj : j < ls.length), ∃ c u, v.cells[j]? = some u ∧ LeafA (ls[j]).2 c ∧ c.single = true ∧ VR (K0 W) c u := by
      intro j hj
      obtain ⟨u, hu, hl⟩ := g1 _ (List.getElem_mem hj)
      have hoff : (ls[j]).1 = j := by
        have : (ls.map (·.1))[j]? = (List.range (if isAggT P T then P.cellsOf T else 1))[j]? := by rw [h1]
        simp only [List.getElem?_map, List.getElem?_eq_getElem hj, Option.map_some] at this
        have hlr : ls.length = (if isAggT P T then P.cellsOf T else 1) := by simpa using congrArg List.length h1
        have hlt : j < (if isAggT P T then P.cellsOf T else 1) := by omega
        rw [List.getElem?_range hlt] at this
        simpa using this
      rw [hoff, Array.getElem?_toList] at hu
      have hspot : spotOk u := by
        rcases hcells with ⟨_, _, hs⟩ | ⟨_, hc, hs⟩
        · exact hs j u hu
        · rw [hc] at hu
          have : u = v := by
            cases j with
            | zero => simpa using hu.symm
            | succ j => simp at hu
          rw [this]; exact hs
      obtain ⟨c, q1, q2, q3⟩ := leaf_av hl hspot (h2 _ (List.mem_map.2 ⟨_, List.getElem_mem hj, rfl⟩))
      exact ⟨c, u, hu, q1, q2, q3⟩
    let f (j : Nat) : AV := if hj : j < ls.length then Classical.choose (hleaf j hj) else .tup []
    have hf : ∀ (j : Nat) (hj : j < ls.length), ∃ u, v.cells[j]? = some u ∧ LeafA (ls[j]).2 (f j) ∧ (f j).single = true ∧ VR (K0 W) (f j) u := by
      intro j hj
      have : f j = Classical.choose (hleaf j hj) := by simp [f, hj]
      rw [this]
      exact Classical.choose_spec (hleaf j hj)
    have hget : ∀ (j : Nat) c, ((List.range ls.length).map f)[j]? = some c → ∃ (hj : j < ls.length), c = f j := by
      intro j c hc
      have hj : j < ls.length := by simpa using (List.getElem?_eq_some_iff.1 hc).1
      refine ⟨hj, ?_⟩
      simp only [List.getElem?_map, List.getElem?_range hj, Option.map_some, Option.some.injEq] at hc
      exact hc.symm
    refine ⟨(List.range ls.length).map f, leafAs_mk _ _ (by simp) (fun j k c hk hc => ?_), ?_⟩
    · obtain ⟨hj, rfl⟩ := hget j c hc
      obtain ⟨u, _, q, _⟩ := hf j hj
      simp only [List.getElem?_map, List.getElem?_eq_getElem hj, Option.map_some, Option.some.injEq] at hk
      subst hk; exact q
    · rcases hcells with ⟨ha, hv, _⟩ | ⟨ha, hc, _⟩
      · rw [ha]
        unfold wrapA
        rw [if_pos rfl]
        rw [hv]
        refine .agg (by simp [hlen]) (fun i c hc => ?_) (fun i c u hc hu => ?_)
        · obtain ⟨hi, rfl⟩ := hget i c hc
          obtain ⟨u, _, _, q, _⟩ := hf i hi
          exact q
        · obtain ⟨hi, rfl⟩ := hget i c hc
          obtain ⟨u', e, _, _, q⟩ := hf i hi
          rw [hu] at e; cases e; exact q
      · rw [ha]
        unfold wrapA
        have h1l : ls.length = 1 := by rw [hlen, hc]; rfl
        obtain ⟨u, e, _, _, q⟩ := hf 0 (by omega)
        rw [hc] at e
        simp only [List.getElem?_toArray, List.getElem?_cons_zero, Option.some.injEq] at e
        subst e
        rw [h1l]
        simpa using q
  · cases hok

/-- All arguments. -/
def ArgsA (P : Program) : List TypeId → List AV → Prop
  | [], [] => True
  | T :: Ts, a :: avs => (∃ cs, LeafAs (parKs P T) cs ∧ a = wrapA (isAggT P T) cs) ∧ ArgsA P Ts avs
  | _, _ => False

theorem args_av {base : Nat} : ∀ (Ts : List TypeId) (vs : List Value) (ds : List (DataW H)) (ps : List MemPlace), (∀ T ∈ Ts, parOk P T (parKs P T) = true) → (∀ (j : Nat) T v, Ts[j]? = some T → vs[j]? = some v → Value.okWide P W .any base T v) →
    DataW.TrodAll enc P W 0 (fun _ => true) true Ts vs ds ps → ∃ avs, ArgsA P Ts avs ∧ avs.length = vs.length ∧ ∀ (i : Nat) a v, avs[i]? = some a → vs[i]? = some v → VR (K0 W) a v
  | [], [], [], _, _, _, _ => ⟨[], trivial, rfl, fun i a v h => by simp at h⟩
  | T :: Ts, v :: vs, d :: ds, _, hok, ho, h => by
    obtain ⟨p, q, h1, h2, _⟩ := h
    obtain ⟨cs, q1, q2⟩ := arg_av (hok T (List.mem_cons_self ..)) (ho 0 T v rfl rfl) h1
    obtain ⟨avs, r1, r2, r3⟩ := args_av Ts vs ds q (fun T hT => hok T (List.mem_cons_of_mem _ hT)) (fun j T v hT hv => ho (j + 1) T v (by simpa using hT) (by simpa using hv)) h2
    refine ⟨_ :: avs, ⟨⟨cs, q1, rfl⟩, r1⟩, by simp [r2], fun i a u ha hu => ?_⟩
    cases i with
    | zero => simp at ha hu; subst ha; subst hu; exact q2
    | succ i => exact r3 i a u (by simpa using ha) (by simpa using hu)
  | [], _ :: _, _, _, _, _, h => h.elim
  | [], [], _ :: _, _, _, _, h => h.elim
  | _ :: _, [], _, _, _, _, h => h.elim
  | _ :: _, _ :: _, [], _, _, _, h => h.elim

theorem trodAll_stays (hl : laidOutB P = true) {W' : World} (bel : Below W.heap.size W W') : ∀ (Ts : List TypeId) (vs : List Value) (ds : List (DataW H)) (ps : List MemPlace), (∀ T ∈ Ts, parOk P T (parKs P T) = true) →
    DataW.TrodAll enc P W 0 (fun _ => true) true Ts vs ds ps → DataW.TrodAll enc P W' 0 (fun b => decide (b < W.heap.size)) true Ts vs ds ps
  | [], [], [], _, _, h => h
  | T :: Ts, v :: vs, d :: ds, _, hok, h => by
    obtain ⟨p, q, h1, h2, rfl⟩ := h
    have hT := hok T (List.mem_cons_self ..)
    have hr : P.readableRec T = true ∧ T < P.types.size := by
      unfold parOk at hT
      split at hT
      · simp only [Bool.and_eq_true, decide_eq_true_eq] at hT; exact ⟨hT.1.2, hT.2⟩
      · cases hT
    refine ⟨p, q, Below.trod hl hr.1 hr.2 h1 bel (fun x hx => ?_), trodAll_stays hl bel Ts vs ds q (fun T hT => hok T (List.mem_cons_of_mem _ hT)) h2, rfl⟩
    obtain ⟨n, hn⟩ := h1
    exact DataW.trod_lt n _ _ _ hn x hx
  | [], _ :: _, _, _, _, h => h.elim
  | [], [], _ :: _, _, _, h => h.elim
  | _ :: _, [], _, _, _, h => h.elim
  | _ :: _, _ :: _, [], _, _, h => h.elim

/-- A law: on all arguments that can be read, true; and they read avs they did. -/
theorem law_calls (hl : laidOutB P = true) {f : FuncId} {fn : Func} {s : ChangeSpec} {bT : TypeId} (hs : s.vars = []) (hres : fn.resultTypes = #[bT]) (hb : P.underlying bT = some .bool)
    (hok : ∀ T ∈ fn.params.toList, parOk P T (parKs P T) = true) (hfn : ∀ (ds : List (DataW H)), ds.length = fn.params.size → s.fn H ds = { results := [.lit (.bool true)], args := ds })
    (law : ∀ avs, ArgsA P fn.params.toList avs → DCall P f avs (.sc (.bool true))) {base : Nat} {args : Array Value} {ds gs : List (DataW H)} {before : List MemPlace}
    (ho : ∀ (j : Nat) t v, fn.params[j]? = some t → args[j]? = some v → Value.okWide P W .any base t v) (hW : DataW.Whole enc P fn.params.toList s.vars false W args.toList ds gs before) :
    Calls P f args W fun e W' => ∃ v, e = .returned v ∧ s.post enc P fn false true false false W args v W' := by
  have hW0 := hW
  obtain ⟨p, q, hA, hV, rfl, hfz, hnd⟩ := hW
  rw [hs] at hV
  obtain ⟨rfl, rfl⟩ := trodVars_none hV
  obtain ⟨avs, h1, h2, h3⟩ := args_av (P := P) (W := W) (base := base) fn.params.toList args.toList ds p hok (fun j T v hT hv => ho j T v (by simpa using hT) (by simpa using hv)) hA
  have htr : TR (K0 W) avs args := ⟨by simpa using h2, fun i a v ha hv => h3 i a v ha (by simpa using hv)⟩
  refine ((law avs h1 ⟨[], [], []⟩).2 (K0 W) W args htr (.start W)).mono ?_
  rintro e W' ⟨v', rv, S', K', rfl, ⟨rfl, rfl⟩, hv, hr, he⟩
  obtain rfl := hv.scv
  have hm : ∀ r, ¬ (K0 W).mut r := fun r => by simp [KW.mut, K0]
  have bel : Below W.heap.size W W' := ⟨he.os, he.tape, he.output, he.size, fun k hk => he.frame k hk (hm k)⟩
  have hlen : ds.length = fn.params.size := by
    have key : ∀ (Ts : List TypeId) (vs : List Value) (ds : List (DataW H)) (ps : List MemPlace), DataW.TrodAll enc P W 0 (fun _ => true) true Ts vs ds ps → ds.length = Ts.length := by
      intro Ts
      induction Ts with
      | nil => intro vs ds ps h; cases vs <;> cases ds <;> first | rfl | exact h.elim
      | cons T Ts ih =>
        intro vs ds ps h
        cases vs with
        | nil => exact h.elim
        | cons v vs =>
          cases ds with
          | nil => exact h.elim
          | cons d ds => obtain ⟨_, _, _, h2, _⟩ := h; simp [ih _ _ _ h2]
    simpa using key _ _ _ _ hA
  refine ⟨_, rfl, ds, [], _, [], p, [], hW0, ?_, ?_, ?_, bel.frame _, fun h => by cases h⟩
  · rw [List.append_nil, hfn ds hlen, hres]
    exact trodAll_mk1 (shut_bool hb _)
  · rw [List.append_nil, hfn ds hlen]
    exact trodAll_stays hl bel _ _ _ _ hok hA
  · rw [List.append_nil, hfn ds hlen, hs]
    rfl

end

/-! ### What the arguments are -/

theorem argsA_cons {P : Program} {T : TypeId} {Ts : List TypeId} {avs : List AV} (h : ArgsA P (T :: Ts) avs) : ∃ cs rest, avs = wrapA (isAggT P T) cs :: rest ∧ LeafAs (parKs P T) cs ∧ ArgsA P Ts rest := by
  cases avs with
  | nil => exact h.elim
  | cons a rest => obtain ⟨⟨cs, h1, rfl⟩, h2⟩ := h; exact ⟨cs, rest, rfl, h1, h2⟩
theorem argsA_nil {P : Program} {avs : List AV} (h : ArgsA P [] avs) : avs = [] := by
  cases avs with
  | nil => rfl
  | cons a rest => exact h.elim
theorem leafAs_cons {k : LK} {ks : List LK} {cs : List AV} (h : LeafAs (k :: ks) cs) : ∃ c cs', cs = c :: cs' ∧ LeafA k c ∧ LeafAs ks cs' := by
  cases cs with
  | nil => exact h.elim
  | cons c cs => exact ⟨c, cs, rfl, h.1, h.2⟩
theorem leafAs_nil {cs : List AV} (h : LeafAs [] cs) : cs = [] := by
  cases cs with
  | nil => rfl
  | cons a rest => exact h.elim
theorem leafA_int {c : AV} (h : LeafA (.f (.int .i64)) c) : ∃ n : Int, c = .sc (.int .i64 n) ∧ -9223372036854775808 ≤ n ∧ n ≤ 9223372036854775807 := by
  obtain ⟨n, rfl, hw⟩ := h
  exact ⟨n, rfl, bounds_i64 hw⟩

end Go.Proofs.Ytfjeopaaplnoaaa.Av
