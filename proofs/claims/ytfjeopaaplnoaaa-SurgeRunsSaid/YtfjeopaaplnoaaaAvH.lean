/-
  THE ABSTRACT WALK: the operations, one by one (5): slices built and cut, len, min, max, calls.
-/
import Derived.Test.YtfjeopaaplnoaaaAvG
namespace Go.Proofs.Ytfjeopaaplnoaaa.Av
open Go Go.RowKit
set_option linter.unusedSimpArgs false

def rflat (vs : List Value) : List Value := vs.flatMap (fun v => v.cells.toList)

theorem rflat_length {st : Nat} : ∀ (vs : List Value), (∀ v ∈ vs, v.cells.size = st) → (rflat vs).length = vs.length * st
  | [], _ => by simp [rflat]
  | v :: vs, h => by
    have := rflat_length vs (fun u hu => h u (List.mem_cons_of_mem _ hu))
    simp only [rflat, List.flatMap_cons, List.length_append, Array.length_toList, List.length_cons] at this ⊢
    rw [this, h v (List.mem_cons_self ..), Nat.add_mul, Nat.one_mul, Nat.add_comm]

theorem rflat_get {st : Nat} : ∀ (vs : List Value), (∀ v ∈ vs, v.cells.size = st) → ∀ (i j : Nat) (v c : Value), vs[i]? = some v → v.cells[j]? = some c → (rflat vs)[i * st + j]? = some c
  | [], _, i, j, v, c, h, _ => by simp at h
  | u :: vs, hs, 0, j, v, c, h, hc => by
    simp at h; subst h
    have : j < u.cells.size := (Array.getElem?_eq_some_iff.1 hc).1
    simp only [rflat, List.flatMap_cons, Nat.zero_mul, Nat.zero_add]
    rw [List.getElem?_append_left (by simpa using this)]
    simpa using hc
  | u :: vs, hs, i + 1, j, v, c, h, hc => by
    simp only [List.getElem?_cons_succ] at h
    have hu := hs u (List.mem_cons_self ..)
    simp only [rflat, List.flatMap_cons]
    rw [List.getElem?_append_right (by simp [hu, Nat.add_mul]; omega)]
    have e : (i + 1) * st + j - u.cells.toList.length = i * st + j := by simp [hu, Nat.add_mul]; omega
    rw [e]
    exact rflat_get vs (fun w hw => hs w (List.mem_cons_of_mem _ hw)) i j v c h hc

theorem fill_seq {st : Nat} : ∀ (rs : List (Nat × Value)) (k : Nat) (cells : Array Value), (∀ (i : Nat) (r : Nat × Value), rs[i]? = some r → r.1 = k + i ∧ r.2.cells.size = st) →
    cells.size = (k + rs.length) * st → Instr.fill (fun i => some (i * st, st)) cells rs = some (cells.toList.take (k * st) ++ rflat (rs.map (·.2))).toArray
  | [], k, cells, _, hc => by
    simp only [List.length_nil, Nat.add_zero] at hc
    simp only [Instr.fill, rflat, List.map_nil, List.flatMap_nil, List.append_nil, ← hc]
    rw [List.take_of_length_le (by simp)]
  | (i, v) :: rs, k, cells, h, hc => by
    obtain ⟨h1, h2⟩ := h 0 (i, v) rfl
    simp only [Nat.add_zero] at h1 h2
    subst h1
    simp only [List.length_cons] at hc
    have hle : i * st + v.cells.size ≤ cells.size := by
      rw [hc, h2, ← Nat.succ_mul]; exact Nat.mul_le_mul_right _ (by omega)
    simp only [Instr.fill]
    rw [if_neg (by simp [h2]; omega)]
    have e := fill_one (i * st) v cells hle
    rw [e]
    have hs : (splice cells.toList (i * st) v.cells.toList).length = cells.size := by rw [length_splice (by simpa using hle)]; simp
    rw [fill_seq rs (i + 1) _ (fun j r hr => by
      obtain ⟨q1, q2⟩ := h (j + 1) r hr
      exact ⟨by omega, q2⟩) (by simp only [List.size_toArray, hs, hc]; congr 1; omega)]
    congr 2
    have ht : (i + 1) * st = i * st + v.cells.toList.length := by simp [h2, Nat.add_mul]
    simp only [rflat, List.map_cons, List.flatMap_cons, ht]
    rw [← List.append_assoc]
    congr 1
    unfold splice
    have hl : (cells.toList.take (i * st) ++ v.cells.toList).length = i * st + v.cells.toList.length := by
      simp; omega
    rw [← hl, List.take_left']
    rfl

theorem VR.mkSl {K : KW} {xs : List AV} {vs : List Value} {st r : Nat} (hl : xs.length = vs.length) (h : ∀ (i : Nat) x v, xs[i]? = some x → vs[i]? = some v → VR K x v)
    (ht : ∀ x ∈ xs, x.isTup = false ∧ x.cells.length = st) (hp : K.pub r = []) : VR (K.addPub r (rflat vs)) (.sl .ex st xs) (.slice (some ⟨r, 0, none⟩) vs.length vs.length) := by
  have hle : K.le (K.addPub r (rflat vs)) := KW.le_addPub (fun i v hv => by rw [hp] at hv; simp at hv)
  have hsz : ∀ v ∈ vs, v.cells.size = st := by
    intro v hv
    obtain ⟨i, hi, rfl⟩ := List.mem_iff_getElem.1 hv
    have hi' : i < xs.length := hl ▸ hi
    have hb := boxR_cells (h i _ _ (List.getElem?_eq_getElem hi') (List.getElem?_eq_getElem hi)) (AV.not_tup (ht _ (List.getElem_mem hi')).1)
    rw [← hb.1, (ht _ (List.getElem_mem hi')).2]
  have key : ∀ (i : Nat) (x : AV) (j : Nat) (c : AV), xs[i]? = some x → x.cells[j]? = some c → ∃ v u, vs[i]? = some v ∧ v.cells[j]? = some u ∧ VR K c u ∧ c.single = true := by
    intro i x j c hx hc
    have hi : i < vs.length := hl ▸ (List.getElem?_eq_some_iff.1 hx).1
    have hxm : x ∈ xs := List.mem_of_getElem? hx
    have hb := boxR_cells (h i _ _ hx (List.getElem?_eq_getElem hi)) (AV.not_tup (ht _ hxm).1)
    have hj : j < vs[i].cells.size := hb.1 ▸ (List.getElem?_eq_some_iff.1 hc).1
    exact ⟨vs[i], vs[i].cells[j], List.getElem?_eq_getElem hi, Array.getElem?_eq_getElem hj, hb.2.2 j c _ hc (Array.getElem?_eq_getElem hj), hb.2.1 j c hc⟩
  refine .sl (fun i j => ((vs[i]?).bind (fun v => v.cells[j]?)).getD Go.undef) rfl hl (Nat.le_refl _) (fun x hx => (ht x hx).2) ?_ (fun i x j c hx hc => (key i x j c hx hc).choose_spec.choose_spec.2.2.2) ?_ rfl
  · intro i x j c hx hc
    obtain ⟨v, u, h1, h2, _, _⟩ := key i x j c hx hc
    have : (K.addPub r (rflat vs)).pub r = rflat vs := by simp [KW.addPub]
    rw [this, Nat.zero_add, rflat_get vs hsz i j v u h1 h2, h1]
    simp [h2]
  · intro i x j c hx hc
    obtain ⟨v, u, h1, h2, h3, _⟩ := key i x j c hx hc
    rw [h1]
    simp only [Option.bind_some, h2, Option.getD_some]
    exact h3.mono hle

section
variable {P : Program} {o : Oper} {t : List AV} {S : AS} {Kp : AV → AS → Prop}

/-- The parts of a slice that is written out: all of them, in order. -/
def asparts (parts : Array (Nat × Operand)) (len : Nat) : Bool := parts.toList.map (·.1) == List.range len

theorem AOp.buildSlice {T : TypeId} {len : Nat} {parts : Array (Nat × Operand)} {st : Nat} (ho : o.op = .buildSlice T len parts) (hp : parts.all (fun q => okConst q.2) = true)
    (hs : asparts parts len = true) (he : aelem P T = some st) (hlen : len * st ≤ 16777216) (hz : len = 0 ∨ ∃ e, P.underlying T = some (.slice e) ∧ ∃ cs, azero P e = some cs)
    (ht : ∀ q ∈ parts.toList, (ev t q.2).isTup = false ∧ (ev t q.2).cells.length = st)
    (h : Kp (.sl .ex st (parts.toList.map fun q => ev t q.2)) S) : AOp P o t S Kp := by
  refine ⟨by rw [ho]; exact fun _ h => (nomatch h), fun rd K a w h1 h2 _ => ?_⟩
  obtain ⟨e, i, hu, hi, hsz⟩ := aelem_run he
  have hmem : ∀ q ∈ parts, q.2 ∈ o.op.operands := fun q hq => by rw [ho]; simp only [Op.operands, List.mem_toArray]; exact List.mem_map.2 ⟨q, by simpa using hq, rfl⟩
  obtain ⟨_, hr⟩ := parts_rel h1 hp hmem
  have hidx : parts.toList.map (·.1) = List.range len := by simpa [asparts] using hs
  have hplen : parts.toList.length = len := by have := congrArg List.length hidx; simpa using this
  let vs := parts.toList.map fun q => a.eval q.2
  have hvl : vs.length = len := by simp [vs, hplen]
  have hrel : ∀ (k : Nat) x v, (parts.toList.map fun q => ev t q.2)[k]? = some x → vs[k]? = some v → VR K x v := by
    intro k x v hx hv
    simp only [vs, List.getElem?_map, Option.map_eq_some_iff] at hx hv
    obtain ⟨q, hq, rfl⟩ := hx
    obtain ⟨q', hq', rfl⟩ := hv
    rw [hq] at hq'; cases hq'
    exact h1.ev q.2 (by simp only [Array.all_eq_true'] at hp; exact hp q (Array.mem_of_getElem? (by simpa using hq))) (hmem q (Array.mem_of_getElem? (by simpa using hq)))
  have htt : ∀ x ∈ (parts.toList.map fun q => ev t q.2), x.isTup = false ∧ x.cells.length = st := by
    intro x hx
    obtain ⟨q, hq, rfl⟩ := List.mem_map.1 hx
    exact ht q hq
  have hcs : ∀ v ∈ vs, v.cells.size = st := by
    intro v hv
    obtain ⟨k, hk, rfl⟩ := List.mem_iff_getElem.1 hv
    have hk' : k < (parts.toList.map fun q => ev t q.2).length := by simpa [vs] using hk
    have hb := boxR_cells (hrel k _ _ (List.getElem?_eq_getElem hk') (List.getElem?_eq_getElem hk)) (AV.not_tup (htt _ (List.getElem_mem hk')).1)
    rw [← hb.1, (htt _ (List.getElem_mem hk')).2]
  have hfill : ∀ (cells : Array Value), cells.size = len * st → Instr.fill (fun k => some (k * st, st)) cells (parts.map fun (k, x) => (k, a.eval x)).toList = some (rflat vs).toArray := by
    intro cells hc
    have := fill_seq (st := st) (parts.map fun (k, x) => (k, a.eval x)).toList 0 cells (by
      intro k r hk
      simp only [Array.toList_map, List.getElem?_map, Option.map_eq_some_iff] at hk
      obtain ⟨q, hq, rfl⟩ := hk
      refine ⟨?_, ?_⟩
      · have : (parts.toList.map (·.1))[k]? = some q.1 := by simp [List.getElem?_map, hq]
        rw [hidx] at this
        obtain ⟨_, h3⟩ := List.getElem?_eq_some_iff.1 this
        rw [List.getElem_range] at h3
        simp [← h3]
      · exact hcs _ (List.mem_map.2 ⟨q, List.mem_of_getElem? hq, rfl⟩)) (by simp [hc, hplen])
    rw [this]
    simp only [Nat.zero_mul, List.take_zero, List.nil_append, Array.toList_map, List.map_map]
    rfl
  obtain ⟨k1, k2⟩ := h2.newrow (rflat vs).toArray e
  have hrun : (execOp a.eval o).run P w = .ok (.value (.slice (some ⟨w.heap.size, 0, none⟩) len len)) (w.alloc (.cells (rflat vs).toArray e)) := by
    simp only [execOp, ho, Instr.buildSlice, Sem.run_bind, run_underlying hu, Result.andThen_ok, sizeOf, typeInfo, run_program, hi, Sem.run_pure, hsz]
    rw [if_neg (by omega)]
    by_cases h0 : len * st = 0
    · rw [if_pos h0]
      simp only [Sem.run_bind, Result.andThen_ok, Sem.run_pure]
      rw [hfill _ (by simp)]
      rfl
    · rw [if_neg h0]
      rcases hz with hz | ⟨e', hu', cs, hz⟩
      · subst hz; simp at h0
      · rw [hu] at hu'; cases hu'
        obtain ⟨z, hz1, _⟩ := azero_run hz w
        simp only [Sem.run_bind, hz1, Result.andThen_ok, Sem.run_pure]
        rw [hfill _ (by simp)]
        rfl
  rw [hrun]
  refine ⟨_, S, _, h, ?_, k1, k2⟩
  have := VR.mkSl (r := w.heap.size) (by simp [vs]) hrel htt h2.pub_size
  rw [hvl] at this
  exact this

/-! ### Cutting a slice -/

theorem VR.cut {K : KW} {k : SK} {st : Nat} {xs : List AV} {A : Addr} {n cap lo hi : Nat} (h : VR K (.sl k st xs) (.slice (some A) n cap)) (hlo : lo ≤ hi) (hhi : hi ≤ n) (c' : Nat) (hc' : hi - lo ≤ c') :
    VR K (.sl .ro st ((xs.drop lo).take (hi - lo))) (.slice (some (A.add (lo * st))) (hi - lo) c') := by
  cases h with
  | sl rc hs hn hc hl h1 hg h2 hk =>
    obtain ⟨B, off, sp⟩ := A
    simp only at hs
    subst hs
    rw [Addr.add_lit]
    have key : ∀ (i : Nat) (x : AV), ((xs.drop lo).take (hi - lo))[i]? = some x → xs[lo + i]? = some x := by
      intro i x hx
      rw [List.getElem?_take] at hx
      split at hx
      · rwa [List.getElem?_drop] at hx
      · cases hx
    refine .sl (fun i j => rc (lo + i) j) rfl (by simp; omega) hc' (fun x hx => hl x (List.mem_of_mem_drop (List.mem_of_mem_take hx))) ?_ (fun i x j c hx hc => hg _ x j c (key i x hx) hc) (fun i x j c hx hc => h2 _ x j c (key i x hx) hc) trivial
    intro i x j c hx hc
    have := h1 _ x j c (key i x hx) hc
    simp only at this ⊢
    rw [← this]
    congr 1
    rw [Nat.add_mul]; omega

/-- A bound of a cut: the number that stands for it. -/
def boundE (e : Operand → AV) (y : Option Operand) (d n : Nat) : Prop :=
  match y with
  | none => n = d
  | some y => okConst y = true ∧ ∃ ki, e y = .sc (.int ki n)

abbrev boundIs (t : List AV) (y : Option Operand) (d n : Nat) : Prop := boundE (ev t) y d n

/-- 's[lo:hi]', also with a bound left out. -/
theorem AOp.slice {T : TypeId} {x : Operand} {lo hi : Option Operand} {k : SK} {st : Nat} {xs : List AV} {l h' : Nat} (ho : o.op = .slice T x lo hi none) (hx : okConst x = true) (he : aelem P T = some st)
    (hex : ev t x = .sl k st xs)
    (hlo : boundIs t lo 0 l) (hhi : boundIs t hi xs.length h')
    (h1 : l ≤ h') (h2 : h' ≤ xs.length) (h : Kp (.sl .ro st ((xs.drop l).take (h' - l))) S) : AOp P o t S Kp := by
  refine AOp.val (by rw [ho]; exact fun _ h => (nomatch h)) h fun K a w g1 _ => ?_
  have e1 := g1.ev x hx (by rw [ho]; simp [Op.operands, Call.operands])
  rw [hex] at e1
  obtain ⟨e, i, hu, hi', hsz⟩ := aelem_run he
  generalize hrx : a.eval x = rx at e1
  have e1' := e1
  cases e1 with
  | @sl _ _ _ A n cap rc hs hn hc hl q1 hg q2 hk =>
    have hb : (Instr.sliceBounds true n cap (lo.map a.eval) (hi.map a.eval) none).run P w = .ok (l, h', cap) w := by
      have hbd : ∀ (y : Operand) (d q m : Nat) (code : BoundsCode), y ∈ o.op.operands → boundIs t (some y) d q → q ≤ m → (Instr.sliceBound (a.eval y) m code).run P w = .ok q w := by
        rintro y d q m code hym ⟨hy, ki, ey⟩ hq
        have ev' := g1.ev y hy hym
        rw [ey] at ev'
        simp only [Instr.sliceBound, ev'.scv, asIntOf, Sem.run_bind, Sem.run_pure, Result.andThen_ok]
        rw [if_pos (by omega)]; simp
      cases hi with
      | none =>
        simp only [boundIs] at hhi
        cases lo with
        | none =>
          simp only [boundIs] at hlo
          simp only [Instr.sliceBounds, Option.map_none, Sem.run_pure, pure_bind]
          rw [hhi, hlo, hn]
        | some y =>
          simp only [Instr.sliceBounds, Option.map_none, Option.map_some, Sem.run_bind, Sem.run_pure, Result.andThen_ok]
          rw [hbd y 0 l n _ (by rw [ho]; simp [Op.operands, Call.operands]) hlo (by omega), hhi, hn]; rfl
      | some z =>
        cases lo with
        | none =>
          simp only [boundIs] at hlo
          simp only [Instr.sliceBounds, Option.map_none, Option.map_some, Sem.run_bind, Sem.run_pure, Result.andThen_ok]
          rw [hbd z _ h' cap _ (by rw [ho]; simp [Op.operands, Call.operands]) hhi (by omega), hlo]; rfl
        | some y =>
          simp only [Instr.sliceBounds, Option.map_none, Option.map_some, Sem.run_bind, Sem.run_pure, Result.andThen_ok]
          rw [hbd z _ h' cap _ (by rw [ho]; simp [Op.operands, Call.operands]) hhi (by omega)]
          simp only [Result.andThen_ok, Sem.run_bind]
          rw [hbd y 0 l h' _ (by rw [ho]; simp [Op.operands, Call.operands]) hlo h1]; rfl
    have hrun : (execOp a.eval o).run P w = .ok (.value (.slice (if cap = l then some A else some (A.add (l * st))) (h' - l) (cap - l))) w := by
      simp only [execOp, ho, hrx, Instr.sliceAt, Instr.slice, Sem.run_bind, run_underlying hu, Result.andThen_ok, Option.map_none, hb, sizeOf, typeInfo, run_program, hi', Sem.run_pure, hsz]
      rfl
    refine ⟨_, hrun, ?_⟩
    have hcut := e1'.cut h1 (by omega) (cap - l) (by omega)
    by_cases hcl : cap = l
    · rw [if_pos hcl]
      have hz : h' - l = 0 := by omega
      rw [hz] at hcut ⊢
      simp only [List.take_zero] at hcut ⊢
      exact .sl (fun _ _ => Go.undef) hs rfl (Nat.zero_le _) (fun x hx => by simp at hx) (fun i x j c hx => by simp at hx) (fun i x j c hx => by simp at hx) (fun i x j c hx => by simp at hx) trivial
    · rw [if_neg hcl]; exact hcut

/-- 's[:0:0]': no room left. -/
theorem AOp.sliceNone {T : TypeId} {x : Operand} {y z : Operand} {k : SK} {st : Nat} {xs : List AV} {ky kz : IntKind} (ho : o.op = .slice T x none (some y) (some z)) (hx : okConst x = true) (hy : okConst y = true) (hz : okConst z = true)
    (he : aelem P T = some st) (hex : ev t x = .sl k st xs) (hey : ev t y = .sc (.int ky 0)) (hez : ev t z = .sc (.int kz 0)) (h : Kp (.sl .ex st []) S) : AOp P o t S Kp := by
  refine AOp.val (by rw [ho]; exact fun _ h => (nomatch h)) h fun K a w g1 _ => ?_
  have e1 := g1.ev x hx (by rw [ho]; simp [Op.operands, Call.operands])
  have e2 := g1.ev y hy (by rw [ho]; simp [Op.operands, Call.operands])
  have e3 := g1.ev z hz (by rw [ho]; simp [Op.operands, Call.operands])
  rw [hex] at e1
  rw [hey] at e2
  rw [hez] at e3
  obtain ⟨e, i, hu, hi', hsz⟩ := aelem_run he
  generalize hrx : a.eval x = rx at e1
  cases e1 with
  | @sl _ _ _ A n cap rc hs hn hc hl q1 hg q2 hk =>
    have hrun : (execOp a.eval o).run P w = .ok (.value (.slice (some A) 0 0)) w := by
      simp [execOp, ho, hrx, Instr.sliceAt, Instr.slice, run_underlying hu, Instr.sliceBounds, Instr.sliceBound, e2.scv, e3.scv, asIntOf, sizeOf, typeInfo, hi']
    exact ⟨_, hrun, .sl (fun _ _ => Go.undef) hs rfl (Nat.le_refl _) (fun x hx => by simp at hx) (fun i x j c hx => by simp at hx) (fun i x j c hx => by simp at hx) (fun i x j c hx => by simp at hx) rfl⟩

/-! ### len, min, max -/

def alen : AV → Option Nat
  | .sl _ _ xs => some xs.length
  | .sc (.slice none n _) => some n
  | _ => none

theorem AOp.len {T e : TypeId} {x : Operand} {n : Nat} (ho : o.op = .call { callee := .builtin .len, args := #[x], argTypes := #[T] }) (hx : okConst x = true) (hT : P.underlying T = some (.slice e))
    (hl : alen (ev t x) = some n) (h : Kp (.sc (.int .i64 n)) S) : AOp P o t S Kp := by
  refine AOp.val (by rw [ho]; exact fun _ h => (nomatch h)) h fun K a w g1 _ => ?_
  have e1 := g1.ev x hx (by rw [ho]; simp [Op.operands, Call.operands])
  have key : ∃ A c, a.eval x = .slice A n c := by
    revert e1 hl
    generalize ev t x = v
    generalize a.eval x = r
    intro hl e1
    unfold alen at hl
    split at hl
    · simp only [Option.some.injEq] at hl
      cases e1 with
      | sl rc hs hn => subst hn; subst hl; exact ⟨_, _, rfl⟩
    · simp only [Option.some.injEq] at hl
      subst hl
      exact ⟨_, _, e1.scv⟩
    · cases hl
  obtain ⟨A, c, hr⟩ := key
  exact ⟨.int .i64 n, by simp [execOp, ho, resolve, invoke, builtin, Builtin.len_, run_underlying hT, hr, goInt], .sc rfl⟩

theorem AOp.lenStr {T : TypeId} {x : Operand} {s : ByteArray} (ho : o.op = .call { callee := .builtin .len, args := #[x], argTypes := #[T] }) (hx : okConst x = true) (hT : P.underlying T = some .string)
    (hl : ev t x = .sc (.string s)) (h : Kp (.sc (.int .i64 s.size)) S) : AOp P o t S Kp := by
  refine AOp.val (by rw [ho]; exact fun _ h => (nomatch h)) h fun K a w g1 _ => ?_
  have e1 := g1.ev x hx (by rw [ho]; simp [Op.operands, Call.operands])
  rw [hl] at e1
  exact ⟨.int .i64 s.size, by simp [execOp, ho, resolve, invoke, builtin, Builtin.len_, run_underlying hT, e1.scv, goInt], .sc rfl⟩

theorem AOp.max {T : Array TypeId} {x y : Operand} {k k' : IntKind} {m n : Int} (ho : o.op = .call { callee := .builtin .max, args := #[x, y], argTypes := T }) (hx : okConst x = true) (hy : okConst y = true)
    (ex : ev t x = .sc (.int k m)) (ey : ev t y = .sc (.int k' n)) (h : Kp (.sc (.int k (Max.max m n))) S) : AOp P o t S Kp := by
  refine AOp.val (by rw [ho]; exact fun _ h => (nomatch h)) h fun K a w g1 _ => ?_
  have e1 := g1.ev x hx (by rw [ho]; simp [Op.operands, Call.operands])
  have e2 := g1.ev y hy (by rw [ho]; simp [Op.operands, Call.operands])
  rw [ex] at e1
  rw [ey] at e2
  refine ⟨.int k (Max.max m n), ?_, .sc rfl⟩
  have : (if n > m then n else m) = Max.max m n := by omega
  simp [execOp, ho, resolve, invoke, builtin, Builtin.max_, Builtin.max2, e1.scv, e2.scv, this]

theorem AOp.min {T : Array TypeId} {x y : Operand} {k k' : IntKind} {m n : Int} (ho : o.op = .call { callee := .builtin .min, args := #[x, y], argTypes := T }) (hx : okConst x = true) (hy : okConst y = true)
    (ex : ev t x = .sc (.int k m)) (ey : ev t y = .sc (.int k' n)) (h : Kp (.sc (.int k (Min.min m n))) S) : AOp P o t S Kp := by
  refine AOp.val (by rw [ho]; exact fun _ h => (nomatch h)) h fun K a w g1 _ => ?_
  have e1 := g1.ev x hx (by rw [ho]; simp [Op.operands, Call.operands])
  have e2 := g1.ev y hy (by rw [ho]; simp [Op.operands, Call.operands])
  rw [ex] at e1
  rw [ey] at e2
  refine ⟨.int k (Min.min m n), ?_, .sc rfl⟩
  have : (if n < m then n else m) = Min.min m n := by omega
  simp [execOp, ho, resolve, invoke, builtin, Builtin.min_, Builtin.min2, e1.scv, e2.scv, this]

/-! ### Calls -/

theorem AOp.call {f : Operand} {args : Array Operand} {T : Array TypeId} {g : FuncId} {fs cs : List AV} (ho : o.op = .call { callee := .value f, args := args, argTypes := T }) (hf : okConst f = true) (ha : args.all okConst = true)
    (ef : ev t f = .clo (.func g) fs cs) (h : ACall P g (fs ++ args.toList.map (ev t) ++ cs) S Kp) : AOp P o t S Kp := by
  refine ⟨by rw [ho]; exact fun _ h => (nomatch h), fun rd K a w h1 h2 _ => ?_⟩
  have e1 := h1.ev f hf (by rw [ho]; simp [Op.operands, Call.operands])
  rw [ef] at e1
  generalize hrf : a.eval f = rf at e1
  cases e1 with
  | @clo _ _ _ rfs rcs hl1 hl2 q1 q2 =>
    obtain ⟨hc, h⟩ := h
    have hrun : (execOp a.eval o).run P w = .ok (.enter g (rfs ++ args.map a.eval ++ rcs)) w := by
      unfold callable at hc
      split at hc
      · rename_i fn hfn
        simp only [Bool.and_eq_true, Bool.not_eq_true', beq_eq_false_iff_ne, ne_eq] at hc
        obtain ⟨hb, hname⟩ := hc
        simp [execOp, ho, resolve, Deferred.ofValue, hrf, invoke, callFunc, hfn, hname]
        intro hn; rw [hn] at hb; cases hb
      · cases hc
    rw [hrun]
    have htr : TR K (fs ++ args.toList.map (ev t) ++ cs) (rfs ++ args.map a.eval ++ rcs) := by
      refine ⟨by simp [hl1, hl2], fun i v r hv hr => ?_⟩
      by_cases i1 : i < fs.length
      · rw [List.append_assoc, List.getElem?_append_left i1] at hv
        rw [Array.append_assoc, Array.getElem?_append_left (hl1 ▸ i1)] at hr
        exact q1 _ _ _ hv hr
      · by_cases i2 : i < fs.length + args.size
        · rw [List.getElem?_append_left (by simp; exact i2), List.getElem?_append_right (by omega)] at hv
          rw [Array.getElem?_append_left (by simp [← hl1]; exact i2), Array.getElem?_append_right (by omega)] at hr
          simp only [List.getElem?_map, Option.map_eq_some_iff, Array.getElem?_map, Array.getElem?_toList] at hv hr
          obtain ⟨x, hx, rfl⟩ := hv
          obtain ⟨y, hy, rfl⟩ := hr
          rw [← hl1, hx] at hy; cases hy
          exact h1.ev x (by simp only [Array.all_eq_true'] at ha; exact ha x (Array.mem_of_getElem? hx)) (by rw [ho]; simp [Op.operands, Call.operands, Array.mem_of_getElem? hx])
        · rw [List.getElem?_append_right (by simp; omega)] at hv
          rw [Array.getElem?_append_right (by simp; omega)] at hr
          refine q2 _ _ _ hv ?_
          rw [← hr]; congr 1; simp [hl1]
    refine (h K w _ htr h2).mono ?_
    rintro e w' ⟨v, rv, S', K', rfl, hq, hv, hr, he⟩
    exact ⟨rv, rfl, v, S', K', hq, hv, hr, he⟩

end
end Go.Proofs.Ytfjeopaaplnoaaa.Av
