/-
  THE ABSTRACT WALK: the operations, one by one (2): stores, addresses, parts, arithmetic.
-/
import Derived.Test.YtfjeopaaplnoaaaAvD
namespace Go.Proofs.Ytfjeopaaplnoaaa.Av
open Go Go.RowKit
set_option linter.unusedSimpArgs false

/-- Cells laid over others from a place on. -/
def splice {α : Type} (cs : List α) (o : Nat) (vs : List α) : List α := cs.take o ++ vs ++ cs.drop (o + vs.length)

theorem length_splice {α : Type} {cs vs : List α} {o : Nat} (h : o + vs.length ≤ cs.length) : (splice cs o vs).length = cs.length := by
  simp [splice]; omega

theorem get_splice {α : Type} {cs vs : List α} {o : Nat} (h : o + vs.length ≤ cs.length) (i : Nat) :
    (splice cs o vs)[i]? = if o ≤ i ∧ i < o + vs.length then vs[i - o]? else cs[i]? := by
  unfold splice
  by_cases h1 : i < o
  · rw [if_neg (by omega), List.append_assoc, List.getElem?_append_left (by simp; omega), List.getElem?_take, if_pos h1]
  · by_cases h2 : i < o + vs.length
    · rw [if_pos (by omega), List.append_assoc, List.getElem?_append_right (by simp; omega), List.getElem?_append_left (by simp; omega)]
      congr 1; simp; omega
    · rw [if_neg (by omega), List.getElem?_append_right (by simp; omega), List.getElem?_drop]
      congr 1; simp; omega

theorem BoxR.splice {K : KW} {cs vs : List AV} {cells : Array Value} {rv : Array Value} {o : Nat} (h : BoxR K cs cells) (k : BoxR K vs rv) (hle : o + vs.length ≤ cs.length) :
    BoxR K (splice cs o vs) (Av.splice cells.toList o rv.toList).toArray := by
  have hle' : o + rv.toList.length ≤ cells.toList.length := by simp; rw [← k.1, ← h.1]; exact hle
  refine ⟨?_, fun i c hc => ?_, fun i c v hc hv => ?_⟩
  · rw [length_splice hle, h.1]; simp [length_splice hle']
  · rw [get_splice hle] at hc
    split at hc
    · exact k.2.1 _ _ hc
    · exact h.2.1 _ _ hc
  · rw [get_splice hle] at hc
    simp only [List.getElem?_toArray, get_splice hle'] at hv
    have e : rv.toList.length = vs.length := by simp [k.1]
    rw [e] at hv
    split at hc
    · rename_i hh
      rw [if_pos hh] at hv
      exact k.2.2 _ _ _ hc (by simpa using hv)
    · rename_i hh
      rw [if_neg hh] at hv
      exact h.2.2 _ _ _ hc (by simpa using hv)

theorem nodup_get {α : Type} {l : List α} (h : l.Nodup) {i j : Nat} {x : α} (hi : l[i]? = some x) (hj : l[j]? = some x) : i = j := by
  obtain ⟨h1, e1⟩ := List.getElem?_eq_some_iff.1 hi
  obtain ⟨h2, e2⟩ := List.getElem?_eq_some_iff.1 hj
  have hp := List.pairwise_iff_getElem.1 h
  rcases Nat.lt_trichotomy i j with hlt | heq | hgt
  · exact absurd (e1.trans e2.symm) (hp i j h1 h2 hlt)
  · exact heq
  · exact absurd (e2.trans e1.symm) (hp j i h2 h1 hgt)

theorem RR.setbox {K : KW} {S : AS} {w : World} (h : RR K S w) {b r : Nat} {cur new : Array Value} {T : TypeId} {cs : List AV} (hr : K.box[b]? = some r)
    (hcur : w.heap[r]? = some (.cells cur T (0, 0))) (hb : BoxR K cs new) : RR K { S with box := S.box.set b cs } (w.setRow r new) ∧ Ext K w K (w.setRow r new) := by
  have hmem : r ∈ K.box := List.mem_of_getElem? hr
  refine ⟨⟨by simp [h.nbox], h.nown, h.nlp, ?_, h.boxnd, h.boxpub, ?_, ?_, h.ownbox, h.ownnd, ?_, h.lpnd⟩, ⟨.refl _, rfl, rfl, rfl, by simp, ?_, fun _ _ hm => hm, ?_, ?_, fun _ _ _ => rfl⟩⟩
  · intro b' cs' r' h1 h2
    by_cases e : b' = b
    · subst e
      rw [hr] at h2; cases h2
      have hlt : b' < S.box.length := h.nbox ▸ (List.getElem?_eq_some_iff.1 hr).1
      simp only [List.getElem?_set_self hlt, Option.some.injEq] at h1
      subst h1
      exact ⟨new, T, setRow_heap w r cur new T (0, 0) hcur, hb⟩
    · simp only [List.getElem?_set_ne (Ne.symm e)] at h1
      have hne : r' ≠ r := by
        intro e'; subst e'
        exact e (nodup_get h.boxnd h2 hr)
      obtain ⟨c, t, h3, h4⟩ := h.box b' cs' r' h1 h2
      exact ⟨c, t, by rw [setRow_other _ _ _ _ hne]; exact h3, h4⟩
  · intro B hB
    have hne : B ≠ r := fun e => hB (e ▸ h.boxpub r hmem)
    obtain ⟨c, t, fr, h3, h4⟩ := h.pub B hB
    exact ⟨c, t, fr, by rw [setRow_other _ _ _ _ hne]; exact h3, h4⟩
  · intro t' B en m e h1
    have hne : B ≠ r := fun e' => h.ownbox t' B en m e h1 (e' ▸ hmem)
    obtain ⟨h2, ⟨c, h3, h4⟩, h5⟩ := h.own t' B en m e h1
    exact ⟨h2, ⟨c, by rw [setRow_other _ _ _ _ hne]; exact h3, h4⟩, h5⟩
  · intro l L q h1 h2
    obtain ⟨lo, h3, h4⟩ := h.lp l L q h1 h2
    have hne : q ≠ r := by intro e'; subst e'; rw [hcur] at h3; cases h3
    exact ⟨lo, by rw [setRow_other _ _ _ _ hne]; exact h3, h4⟩
  · intro q _ hm
    exact setRow_other _ _ _ _ (fun e => hm (.inl (e ▸ hmem)))
  · intro q lo hl
    have hne : q ≠ r := by intro e'; subst e'; rw [hcur] at hl; cases hl
    exact ⟨lo, by rw [setRow_other _ _ _ _ hne]; exact hl, rfl⟩
  · intro q d hd
    have hne : q ≠ r := by intro e'; subst e'; rw [hcur] at hd; cases hd
    rw [setRow_other _ _ _ _ hne]; exact hd

section
variable {P : Program} {o : Oper} {t : List AV} {S : AS} {Kp : AV → AS → Prop}

def AS.setBox (S : AS) (b : Nat) (cs : List AV) : AS := { S with box := S.box.set b cs }

/-- A store. -/
def astore (P : Program) (T : TypeId) (S : AS) (p v : AV) : Option AS :=
  match p with
  | .ptr b o => match lay P T, S.box[b]? with
    | some (_, n), some cs => if v.isTup = false ∧ v.cells.length = n ∧ o + n ≤ cs.length then some (S.setBox b (splice cs o v.cells)) else none
    | _, _ => none
  | _ => none

theorem one_of_cells {K : KW} {cs : List AV} {rv : Array Value} (h : BoxR K cs rv) : ∀ v ∈ rv.toList, v.oneCell' = true := by
  intro v hv
  obtain ⟨i, hi, he⟩ := List.mem_iff_getElem.1 hv
  have hi2 : i < cs.length := by rw [h.1]; simpa using hi
  have hi3 : i < rv.size := by simpa using hi
  refine flat_of (h.2.2 i _ v (List.getElem?_eq_getElem hi2) ?_) (h.2.1 i _ (List.getElem?_eq_getElem hi2))
  rw [Array.getElem?_eq_getElem hi3]; simpa using he

theorem AOp.store {T : TypeId} {x y : Operand} {S' : AS} (ho : o.op = .store T x y) (hx : okConst x = true) (hy : okConst y = true)
    (hs : astore P T S (ev t x) (ev t y) = some S') (h : Kp (.tup []) S') : AOp P o t S Kp := by
  refine ⟨by simp [ho], fun rd K a w h1 h2 _ => ?_⟩
  have hp := h1.ev x hx (by rw [ho]; simp [Op.operands, Call.operands])
  have hv := h1.ev y hy (by rw [ho]; simp [Op.operands, Call.operands])
  revert hp hv hs
  generalize ev t x = p
  generalize ev t y = v
  intro hs hp hv
  unfold astore at hs
  split at hs
  · rename_i b off
    split at hs
    · rename_i g n cs hlay hcs
      split at hs
      · rename_i hcond
        obtain ⟨ht, hn, hle⟩ := hcond
        simp only [Option.some.injEq] at hs
        subst hs
        generalize hrp : a.eval x = rp at hp
        generalize hrv : a.eval y = rv at hv
        cases hp with
        | @ptr _ _ r hbox =>
          obtain ⟨cells, T', hcur, hbr⟩ := h2.box b cs r hcs hbox
          have hbv := boxR_cells hv (AV.not_tup ht)
          have hsz : rv.cells.toList.length = n := by simp [← hbv.1, hn]
          have hlec : off + rv.cells.toList.length ≤ cells.size := by rw [hsz, ← hbr.1]; exact hle
          obtain ⟨r1, r2⟩ := lay_run hlay w
          have hst := run_storeCells_at P r off T' rv.cells.toList 0 cells w hcur (by simpa using hlec) (one_of_cells hbv)
          have hr : (execOp a.eval o).run P w = .ok .skip (w.setRow r (splice cells.toList off rv.cells.toList).toArray) := by
            have : rv.cells.size = n := by simpa using hsz
            simp [execOp, ho, hrp, hrv, Instr.storeAt, Instr.sureAddr, storeVar, r2, this, hst, splice]
          rw [hr]
          obtain ⟨k1, k2⟩ := h2.setbox hbox hcur (hbr.splice hbv (by rw [hn]; exact hle))
          exact ⟨_, _, _, h, VR.undef K, k1, k2⟩
      · cases hs
    · cases hs
  · cases hs

/-! ### Addresses -/

/-- Where a field lies in its struct: its cells' first; none: no such field, or a field without cells. -/
def afoff (P : Program) (T : TypeId) (f : Nat) : Option Nat :=
  match P.underlying T with
  | some (.struct fs) => match fs[f]? with
    | some x => match P.info? x.type with
      | some i => if i.size = 0 then none else some x.offset
      | none => none
    | none => none
  | _ => none

theorem afoff_run {T : TypeId} {f n : Nat} (h : afoff P T f = some n) (a : Addr) (w : World) : (Instr.fieldAt T (.pointer (some a)) f).run P w = .ok (.pointer (some (a.add n))) w := by
  unfold afoff at h
  split at h
  · rename_i fs hu
    split at h
    · rename_i x hx
      split at h
      · rename_i i hi
        split at h
        · cases h
        · rename_i hne
          simp only [Option.some.injEq] at h
          subst h
          simp [Instr.fieldAt, run_underlying hu, hx, Instr.sureAddr, fieldPlace, sizeOf, typeInfo, hi, hne]
      · cases h
    · cases h
  · cases h

def ashift (n : Nat) : AV → Option AV
  | .ptr b o => some (.ptr b (o + n))
  | .el cs o => some (.el cs (o + n))
  | _ => none

theorem ashift_run {K : KW} {p q : AV} {rp : Value} {n : Nat} (h : VR K p rp) (hs : ashift n p = some q) : ∃ A : Addr, rp = .pointer (some A) ∧ VR K q (.pointer (some (A.add n))) := by
  cases h with
  | ptr hb => simp only [ashift, Option.some.injEq] at hs; subst hs; exact ⟨_, rfl, by rw [Addr.add_lit]; exact .ptr hb⟩
  | el rc h1 hg h2 => simp only [ashift, Option.some.injEq] at hs; subst hs; exact ⟨_, rfl, by rw [Addr.add_lit, Nat.add_assoc]; exact .el rc h1 hg h2⟩
  | _ => simp [ashift] at hs

theorem AOp.fieldAddr {T : TypeId} {x : Operand} {f n : Nat} {q : AV} (ho : o.op = .fieldAddr T x f) (hx : okConst x = true) (hf : afoff P T f = some n) (hs : ashift n (ev t x) = some q)
    (h : Kp q S) : AOp P o t S Kp := by
  refine AOp.val (by simp [ho]) h fun K a w h1 _ => ?_
  obtain ⟨A, e, hv⟩ := ashift_run (h1.ev x hx (by rw [ho]; simp [Op.operands, Call.operands])) hs
  exact ⟨_, by simp [execOp, ho, e, afoff_run hf], hv⟩

/-- The size of a slice's or an array's element. -/
def aelem (P : Program) (T : TypeId) : Option Nat :=
  match P.underlying T with
  | some (.slice e) => (P.info? e).map (·.size)
  | _ => none

theorem aelem_run {T : TypeId} {n : Nat} (h : aelem P T = some n) : ∃ e i, P.underlying T = some (.slice e) ∧ P.info? e = some i ∧ i.size = n := by
  unfold aelem at h
  split at h
  · rename_i e hu
    simp only [Option.map_eq_some_iff] at h
    obtain ⟨i, hi, rfl⟩ := h
    exact ⟨e, i, hu, hi, rfl⟩
  · cases h

theorem AOp.indexAddr {T : TypeId} {x i : Operand} {k : SK} {st : Nat} {xs : List AV} {ki : IntKind} {n : Int} {v : AV} (ho : o.op = .indexAddr T x i) (hx : okConst x = true) (hi : okConst i = true)
    (he : aelem P T = some st) (hex : ev t x = .sl k st xs) (hei : ev t i = .sc (.int ki n)) (hn : 0 ≤ n) (hv : xs[n.toNat]? = some v) (h : Kp (.el v.cells 0) S) : AOp P o t S Kp := by
  refine AOp.val (by simp [ho]) h fun K a w h1 _ => ?_
  have e1 := h1.ev x hx (by rw [ho]; simp [Op.operands, Call.operands])
  have e2 := h1.ev i hi (by rw [ho]; simp [Op.operands, Call.operands])
  rw [hex] at e1
  rw [hei] at e2
  generalize hrx : a.eval x = rx at e1
  generalize hri : a.eval i = ri at e2
  obtain ⟨e, inf, hu, hinf, hsz⟩ := aelem_run he
  cases e2 with
  | sc _ =>
    cases e1 with
    | @sl _ _ _ A ln cap rc hs hln hc hl g1 hg g2 hk =>
      have hlt : n.toNat < xs.length := (List.getElem?_eq_some_iff.1 hv).1
      have hlt2 : n < (ln : Int) := by omega
      refine ⟨.pointer (some (A.add (n.toNat * st))), ?_, ?_⟩
      · simp [execOp, ho, hrx, hri, Instr.indexAt, asIntOf, run_underlying hu, hn, hlt2, sizeOf, typeInfo, hinf, hsz]
      · obtain ⟨B, off, sp⟩ := A
        simp only at hs
        subst hs
        rw [Addr.add_lit]
        exact .el (base := off + n.toNat * st) (o := 0) (rc n.toNat) (fun j c hc => g1 _ _ j c hv hc) (fun j c hc => hg _ _ j c hv hc) (fun j c hc => g2 _ _ j c hv hc)

/-- The length of an array, the size of its elements. -/
def aarrP (P : Program) (T : TypeId) : Option (Nat × Nat) :=
  match P.underlying T with
  | some (.array len e) => (P.info? e).map fun i => (len, i.size)
  | _ => none

theorem AOp.indexAddrP {T : TypeId} {x i : Operand} {b f len st : Nat} {ki : IntKind} {n : Int} (ho : o.op = .indexAddr T x i) (hx : okConst x = true) (hi : okConst i = true)
    (he : aarrP P T = some (len, st)) (hex : ev t x = .ptr b f) (hei : ev t i = .sc (.int ki n)) (hn : 0 ≤ n) (hl : n < len) (h : Kp (.ptr b (f + n.toNat * st)) S) : AOp P o t S Kp := by
  refine AOp.val (by simp [ho]) h fun K a w h1 _ => ?_
  have e1 := h1.ev x hx (by rw [ho]; simp [Op.operands, Call.operands])
  have e2 := h1.ev i hi (by rw [ho]; simp [Op.operands, Call.operands])
  rw [hex] at e1
  rw [hei] at e2
  generalize hrx : a.eval x = rx at e1
  generalize hri : a.eval i = ri at e2
  unfold aarrP at he
  split at he
  · rename_i len' e hu
    simp only [Option.map_eq_some_iff, Prod.mk.injEq] at he
    obtain ⟨inf, hinf, rfl, rfl⟩ := he
    cases e2 with
    | sc _ =>
      cases e1 with
      | @ptr _ _ r hb =>
        refine ⟨.pointer (some ⟨r, f + n.toNat * inf.size, none⟩), ?_, .ptr hb⟩
        simp [execOp, ho, hrx, hri, Instr.indexAt, Instr.sureAddr, asIntOf, run_underlying hu, hn, hl, sizeOf, typeInfo, hinf, Addr.add_lit]
  · cases he

theorem AOp.extract {x : Operand} {n : Nat} {vs : List AV} {v : AV} (ho : o.op = .extract x n) (hx : okConst x = true) (he : ev t x = .tup vs) (hv : vs[n]? = some v) (h : Kp v S) : AOp P o t S Kp := by
  refine AOp.val (by simp [ho]) h fun K a w h1 _ => ?_
  have e1 := h1.ev x hx (by rw [ho]; simp [Op.operands, Call.operands])
  rw [he] at e1
  generalize hrx : a.eval x = rx at e1
  cases e1 with
  | @tup _ rs hl hh =>
    have hlt : n < rs.size := hl ▸ (List.getElem?_eq_some_iff.1 hv).1
    exact ⟨rs[n], by simp [execOp, ho, hrx, Instr.extract, hlt], hh n v _ hv (Array.getElem?_eq_getElem hlt)⟩

theorem AOp.makeFunc {fn : Fn} {fs cs : Array Operand} (ho : o.op = .makeFunc fn fs cs) (hf : fs.all okConst = true) (hc : cs.all okConst = true)
    (h : Kp (.clo fn (fs.toList.map (ev t)) (cs.toList.map (ev t))) S) : AOp P o t S Kp := by
  refine AOp.val (by simp [ho]) h fun K a w h1 _ => ⟨.func fn (fs.map a.eval) (cs.map a.eval), by simp [execOp, ho, Instr.makeFunc], ?_⟩
  have key : ∀ (zs : Array Operand), zs.all okConst = true → (∀ x ∈ zs, x ∈ o.op.operands) → ∀ (i : Nat) (c : AV) (r : Value), (zs.toList.map (ev t))[i]? = some c → (zs.map a.eval)[i]? = some r → VR K c r := by
    intro zs hz hm i c r h3 h4
    simp only [List.getElem?_map, Option.map_eq_some_iff, Array.getElem?_toList] at h3
    obtain ⟨x, hx, rfl⟩ := h3
    simp only [Array.getElem?_map, hx, Option.map_some, Option.some.injEq] at h4
    subst h4
    exact h1.ev x (by simp only [Array.all_eq_true'] at hz; exact hz x (Array.mem_of_getElem? hx)) (hm x (Array.mem_of_getElem? hx))
  exact .clo (by simp) (by simp) (key fs hf (fun x hx => by rw [ho]; simp [Op.operands, hx])) (key cs hc (fun x hx => by rw [ho]; simp [Op.operands, hx]))

theorem AOp.nilCheck {x : Operand} {b f : Nat} (ho : o.op = .nilCheck x) (hx : okConst x = true) (he : ev t x = .ptr b f) (h : Kp (.ptr b f) S) : AOp P o t S Kp := by
  refine AOp.val (by simp [ho]) h fun K a w h1 _ => ?_
  have e1 := h1.ev x hx (by rw [ho]; simp [Op.operands, Call.operands])
  rw [he] at e1
  generalize hrx : a.eval x = rx at e1
  cases e1 with
  | ptr hb => exact ⟨_, by simp [execOp, ho, hrx], .ptr hb⟩

end
end Go.Proofs.Ytfjeopaaplnoaaa.Av
