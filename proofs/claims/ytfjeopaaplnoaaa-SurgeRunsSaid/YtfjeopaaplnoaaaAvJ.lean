/-
  THE ABSTRACT WALK: the operations, one by one (7): append, whole.
-/
import Derived.Test.YtfjeopaaplnoaaaAvI
namespace Go.Proofs.Ytfjeopaaplnoaaa.Av
open Go Go.RowKit
set_option linter.unusedSimpArgs false

/-- What append wants to know of a slice's type: the elements' type, their cells, their bytes. -/
def aapp (P : Program) (T : TypeId) : Option (TypeId × Nat × Nat) :=
  match P.underlying T with
  | some (.slice e) => match P.info? e with
    | some i => match i.zero with
      | some z => if 0 < i.size ∧ 0 < i.bytes ∧ z.cells.size = i.size then some (e, i.size, i.bytes) else none
      | none => none
    | none => none
  | _ => none

theorem aapp_run {P : Program} {T e : TypeId} {st bytes : Nat} (h : aapp P T = some (e, st, bytes)) :
    ∃ i z, P.underlying T = some (.slice e) ∧ P.info? e = some i ∧ i.zero = some z ∧ i.size = st ∧ i.bytes = bytes ∧ 0 < st ∧ 0 < bytes ∧ z.cells.size = st := by
  unfold aapp at h
  split at h
  · rename_i e' hu
    split at h
    · rename_i i hi
      split at h
      · rename_i z hz
        split at h
        · rename_i hc
          simp only [Option.some.injEq, Prod.mk.injEq] at h
          obtain ⟨rfl, rfl, rfl⟩ := h
          exact ⟨i, z, hu, hi, hz, rfl, rfl, hc.1, hc.2.1, hc.2.2⟩
        · cases h
      · cases h
    · cases h
  · cases h

/-- The elements of a slice. -/
def aelems (st : Nat) : AV → Option (List AV)
  | .sc (.slice none 0 0) => some []
  | .sl _ st' xs => if st' = st then some xs else none
  | _ => none

/-- A slice that may be appended to: its elements, its token. -/
def appX (S : AS) (e : TypeId) (st : Nat) : AV → Option (List AV × Option Nat)
  | .sc (.slice none 0 0) => some ([], none)
  | .sl .ex st' xs => if st' = st then some (xs, none) else none
  | .sl (.own t e') st' xs => if st' = st ∧ e' = e ∧ S.own[t]? = some (xs.length * st) then some (xs, some t) else none
  | _ => none

def appV (S : AS) (e : TypeId) (st : Nat) (zs : List AV) : Option Nat → AV
  | none => .sl (.own S.own.length e) st zs
  | some t => .sl (.own t e) st zs

def AS.pushOwn (S : AS) (n : Nat) : AS := { S with own := S.own ++ [n] }
def AS.setOwn (S : AS) (t n : Nat) : AS := { S with own := S.own.set t n }

def appS (S : AS) (n : Nat) : Option Nat → AS
  | none => S.pushOwn n
  | some t => S.setOwn t n

theorem run_append_none {P : Program} {T ty e : TypeId} {i : TypeInfo} (hu : P.underlying T = some (.slice e)) (hi : P.info? e = some i) (w : World) (A B : Option Addr) (n cap c : Nat) (h : n ≤ cap) :
    (Builtin.append_ #[T, T] ty #[.slice A n cap, .slice B 0 c]).run P w = .ok (.slice A n cap) w := by
  have hf : (Builtin.firstCells i.size 0 (.slice B 0 c)).run P w = .ok #[] w := by
    cases B with
    | none => exact run_firstCells_none (P := P) (w := w) _ _ _ _
    | some b => exact run_firstCells_some (P := P) (w := w) i.size 0 b 0 c [] (by simp) (by simp)
  cases A <;> simp [Builtin.append_, run_underlying hu, sizeOf, typeInfo, hi, Builtin.lenOf, h, hf, storeCells]

section
variable {P : Program} {o : Oper} {t : List AV} {S : AS} {Kp : AV → AS → Prop}

theorem exec_append {x y : Operand} {T : TypeId} (ho : o.op = .call { callee := .builtin .append, args := #[x, y], argTypes := #[T, T] }) (ρ : Operand → Value) (w : World) :
    (execOp ρ o).run P w = ((Builtin.append_ #[T, T] o.type #[ρ x, ρ y]).run P w).andThen fun v w => .ok (.value v) w := by
  simp [execOp, ho, resolve, invoke, builtin]

theorem zeros_size {z : Value} {st n : Nat} (hz : z.cells.size = st) : (Builtin.zeroCells z.cells n).size = n * st := by rw [size_zeroCells, hz]

/-- 'append(x, y...)'. -/
theorem AOp.append {x y : Operand} {T e : TypeId} {st bytes : Nat} {xs ys : List AV} {tok : Option Nat} (ho : o.op = .call { callee := .builtin .append, args := #[x, y], argTypes := #[T, T] })
    (hx : okConst x = true) (hy : okConst y = true) (hT : aapp P T = some (e, st, bytes)) (ex : appX S e st (ev t x) = some (xs, tok)) (ey : aelems st (ev t y) = some ys)
    (hb : (xs.length + ys.length) * bytes ≤ 140737488355328)
    (h0 : ys = [] → Kp (ev t x) S) (h1 : ys ≠ [] → Kp (appV S e st (xs ++ ys) tok) (appS S ((xs.length + ys.length) * st) tok)) : AOp P o t S Kp := by
  refine ⟨by rw [ho]; exact fun _ h => (nomatch h), fun rd K a w g1 g2 _ => ?_⟩
  obtain ⟨i, z, hu, hi, hz, hsz, hby, hst, hbp, hzs⟩ := aapp_run hT
  have vx := g1.ev x hx (by rw [ho]; simp [Op.operands, Call.operands])
  have vy := g1.ev y hy (by rw [ho]; simp [Op.operands, Call.operands])
  rw [exec_append ho]
  have hlen : xs.length + ys.length ≤ 140737488355328 := Nat.le_trans (Nat.le_mul_of_pos_right _ hbp) hb
  have h63 : ((xs.length + ys.length : Nat) : Int) ≤ 9223372036854775807 := by omega
  have hml : xs.length + ys.length ≤ maxLen := by unfold maxLen; omega
  -- y
  have hyr : ∃ B c, a.eval y = .slice B ys.length c ∧ (ys ≠ [] → ∃ b news, B = some b ∧ Content K st ys news ∧ (∀ (q : Nat) v, news[q]? = some v → w.cell? (b.add q) = some v) ∧ ∀ v ∈ news, v.oneCell' = true) := by
    revert vy ey
    generalize ev t y = v
    generalize a.eval y = r
    intro ey vy
    unfold aelems at ey
    split at ey
    · simp only [Option.some.injEq] at ey
      subst ey
      exact ⟨none, 0, vy.scv, fun h => absurd rfl h⟩
    · split at ey
      · rename_i hst'
        simp only [Option.some.injEq] at ey
        subst ey; subst hst'
        have vy' := vy
        cases vy with
        | @sl _ _ _ A n cap rc hs hn hc hl q1 hg q2 hk =>
          subst hn
          obtain ⟨cs, c1, c2, c3⟩ := vy'.content
          refine ⟨some A, cap, rfl, fun _ => ⟨A, cs, rfl, c1, fun q v hv => ?_, c3⟩⟩
          obtain ⟨B', off, sp⟩ := A
          simp only at hs
          subst hs
          rw [Addr.add_lit]
          exact g2.cell (c2 q v hv)
      · cases ey
    · cases ey
  obtain ⟨B, c, hry, hyc⟩ := hyr
  rw [hry]
  by_cases hys : ys = []
  · -- nothing is appended
    have hxr : ∃ A n cap, a.eval x = .slice A n cap ∧ n ≤ cap := by
      revert vx ex
      generalize ev t x = v
      generalize a.eval x = r
      intro ex vx
      unfold appX at ex
      split at ex
      · exact ⟨none, 0, 0, vx.scv, Nat.le_refl _⟩
      · cases vx with
        | sl rc hs hn hc => exact ⟨_, _, _, rfl, hc⟩
      · cases vx with
        | sl rc hs hn hc => exact ⟨_, _, _, rfl, hc⟩
      · cases ex
    obtain ⟨A, n, cap, hrx, hnc⟩ := hxr
    subst hys
    rw [hrx, List.length_nil, run_append_none hu hi w A B n cap c hnc]
    exact ⟨_, S, K, h0 rfl, hrx ▸ vx, g2, .refl _ _⟩
  · obtain ⟨b, news, rfl, cy, ry, oy⟩ := hyc hys
    have hm : 0 < ys.length := by cases ys with
      | nil => exact absurd rfl hys
      | cons _ _ => simp
    have hnl : news.length = ys.length * i.size := by rw [cy.len, hsz]
    have hkp := h1 hys
    clear h0 h1
    revert vx ex hkp
    generalize ev t x = v
    generalize a.eval x = r
    intro ex vx hkp
    unfold appX at ex
    split at ex
    · -- nil
      simp only [Option.some.injEq, Prod.mk.injEq] at ex
      obtain ⟨rfl, rfl⟩ := ex
      simp only [List.length_nil, Nat.zero_add, List.nil_append] at hb hlen h63 hml hkp
      rw [vx.scv, run_append_nil (P := P) (w := w) T o.type e i z hu hi hz b ys.length c news hnl ry hm h63 (by rw [hby]; omega)]
      have hge := grownCap_ge w ys.length 0 e
      have hcm := grownCap_le_maxLen w ys.length 0 e hml
      obtain ⟨k1, k2⟩ := g2.drew.ownNew (news.toArray ++ Builtin.zeroCells z.cells (grownCap w ys.length 0 e - ys.length)) e (C := news) (by simp)
      have hnl2 : news.length = ys.length * st := by rw [hnl, hsz]
      have hcap : (news.toArray ++ Builtin.zeroCells z.cells (grownCap w ys.length 0 e - ys.length)).size = grownCap w ys.length 0 e * st := by
        rw [Array.size_append, zeros_size hzs, List.size_toArray, hnl2, ← Nat.add_mul]; congr 1; omega
      have hstep : ((Result.ok (Value.slice (some ⟨w.heap.size, 0, none⟩) ys.length (grownCap w ys.length 0 e)) (w.drew.alloc (.cells (news.toArray ++ Builtin.zeroCells z.cells (grownCap w ys.length 0 e - ys.length)) e))).andThen fun v w => Result.ok (Next.value v) w) =
        .ok (.value (.slice (some ⟨w.heap.size, 0, none⟩) ys.length (grownCap w ys.length 0 e))) (w.drew.alloc (.cells (news.toArray ++ Builtin.zeroCells z.cells (grownCap w ys.length 0 e - ys.length)) e)) := rfl
      rw [hstep]
      refine ⟨_, _, _, hkp, ?_, by simpa [appS, AS.pushOwn, hnl2] using k1, (Ext.drew K w).trans k2⟩
      refine (cy.mono k2.le).vr (B := w.heap.size) (fun q v hv => by simpa using hv) rfl hge ⟨w.heap.size, news.length, _, ?_, by rw [hnl2]; exact Nat.le_refl _, fun _ => ⟨rfl, hcap, hcm⟩⟩
      simp only
      rw [← g2.nown, List.getElem?_append_right (Nat.le_refl _)]
      simp
    · -- the length is the capacity
      rename_i st' xs'
      split at ex
      · rename_i hst'
        simp only [Option.some.injEq, Prod.mk.injEq] at ex
        obtain ⟨rfl, rfl⟩ := ex
        subst hst'
        have vx' := vx
        cases vx with
        | @sl _ _ _ A n cap rc hs hn hc hl q1 hg q2 hk =>
          simp only [SKok] at hk
          subst hk; subst hn
          obtain ⟨olds, c1, c2, c3⟩ := vx'.content
          obtain ⟨B', off, sp⟩ := A
          simp only at hs
          subst hs
          have hol : olds.length = xs'.length * i.size := by rw [c1.len, hsz]
          have hgr := run_append_grow (P := P) (w := w) T o.type e i z hu hi hz ⟨B', off, none⟩ xs'.length xs'.length olds hol (fun q v hv => by rw [Addr.add_lit]; exact g2.cell (c2 q v hv)) b ys.length c news hnl ry (by omega) h63
            (by rw [hby]; exact growslice_fits (by omega) hb)
          rw [hgr]
          have hge := grownCap_ge w (xs'.length + ys.length) xs'.length e
          have hcm := grownCap_le_maxLen w (xs'.length + ys.length) xs'.length e hml
          obtain ⟨k1, k2⟩ := g2.drew.ownNew (olds.toArray ++ news.toArray ++ Builtin.zeroCells z.cells (grownCap w (xs'.length + ys.length) xs'.length e - (xs'.length + ys.length))) e (C := olds ++ news) (by simp)
          have hnl2 : (olds ++ news).length = (xs'.length + ys.length) * st' := by rw [List.length_append, c1.len, cy.len, Nat.add_mul]
          have hcap : (olds.toArray ++ news.toArray ++ Builtin.zeroCells z.cells (grownCap w (xs'.length + ys.length) xs'.length e - (xs'.length + ys.length))).size = grownCap w (xs'.length + ys.length) xs'.length e * st' := by
            rw [Array.size_append, zeros_size hzs, Array.size_append, List.size_toArray, List.size_toArray, c1.len, cy.len, ← Nat.add_mul, ← Nat.add_mul]; congr 1; omega
          have hstep : ∀ (v : Value) (w : World), ((Result.ok v w).andThen fun v w => Result.ok (Next.value v) w) = .ok (.value v) w := fun _ _ => rfl
          rw [hstep]
          refine ⟨_, _, _, hkp, ?_, by simpa only [appS, AS.pushOwn, hnl2] using k1, (Ext.drew K w).trans k2⟩
          refine ((c1.append cy).mono k2.le).vr (B := w.heap.size) (fun q v hv => by simpa using hv) (by simp) hge ⟨w.heap.size, (olds ++ news).length, _, ?_, by rw [hnl2]; exact Nat.le_refl _, fun _ => ⟨rfl, hcap, hcm⟩⟩
          simp only
          rw [← g2.nown, List.getElem?_append_right (Nat.le_refl _)]
          simp
      · cases ex
    · -- a slice of the call's own
      rename_i tk e' st' xs'
      split at ex
      · rename_i hcond
        obtain ⟨hst', he', hown⟩ := hcond
        simp only [Option.some.injEq, Prod.mk.injEq] at ex
        obtain ⟨rfl, rfl⟩ := ex
        subst hst'; subst he'
        have vx' := vx
        cases vx with
        | @sl _ _ _ A n cap rc hs hn hc hl q1 hg q2 hk =>
          subst hn
          obtain ⟨B', en, m, hK, hle, hlast⟩ := hk
          obtain ⟨o1, ⟨cur, o2, o3⟩, o4⟩ := g2.own tk B' en m e' hK
          rw [hown] at o1
          simp only [Option.some.injEq] at o1
          obtain ⟨hA, hmc, hcm0⟩ := hlast o1
          subst hA
          obtain ⟨olds, c1, c2, c3⟩ := vx'.content
          simp only [Nat.zero_add] at c2
          have hol : olds.length = xs'.length * i.size := by rw [c1.len, hsz]
          have hpub : K.pub B' = olds := by
            apply List.ext_getElem?
            intro q
            by_cases hq : q < olds.length
            · rw [List.getElem?_eq_getElem hq, c2 q _ (List.getElem?_eq_getElem hq)]
            · have hlq : (K.pub B').length ≤ q := by rw [o4, ← o1, ← c1.len]; omega
              rw [List.getElem?_eq_none hlq, List.getElem?_eq_none (Nat.le_of_not_lt hq)]
          have hpre : olds <+: cur.toList := by
            by_cases he : olds = []
            · rw [he]; exact List.nil_prefix
            · obtain ⟨cells0, T0, fr0, p1, p2⟩ := g2.pub B' (by rw [hpub]; exact he)
              rw [o2] at p1
              simp only [Option.some.injEq, Obj.cells.injEq] at p1
              obtain ⟨rfl, _⟩ := p1
              rw [← hpub]; exact p2
          have htake : cur.toList.take (xs'.length * i.size) = olds := by
            obtain ⟨s, hs⟩ := hpre
            rw [← hs, ← hol, List.take_left']
            rfl
          have hnl2 : (olds ++ news).length = (xs'.length + ys.length) * st' := by rw [List.length_append, c1.len, cy.len, Nat.add_mul]
          have hcurl : cur.toList.length = cap * st' := by rw [Array.length_toList, o3, hmc]
          have hstep : ∀ (v : Value) (w : World), ((Result.ok v w).andThen fun v w => Result.ok (Next.value v) w) = .ok (.value v) w := fun _ _ => rfl
          have htl : tk < K.own.length := (List.getElem?_eq_some_iff.1 hK).1
          by_cases hroom : xs'.length + ys.length ≤ cap
          · have hfit : xs'.length * i.size + news.length ≤ cur.size := by
              have : (xs'.length + ys.length) * st' ≤ cap * st' := Nat.mul_le_mul_right _ hroom
              rw [← hnl2, List.length_append, hol] at this
              rw [← Array.length_toList, hcurl]; exact this
            rw [run_append_room (P := P) (w := w) T o.type e' i hu hi B' xs'.length cap cur o2 b ys.length c news hnl ry oy hroom hfit, hstep]
            obtain ⟨k1, k2⟩ := g2.ownIn hK o2 (new := (cur.toList.take (xs'.length * i.size) ++ news ++ cur.toList.drop (xs'.length * i.size + news.length)).toArray) (by
                simp only [List.size_toArray, List.length_append, List.length_take, List.length_drop, Array.length_toList]; omega) (C := olds ++ news) (by rw [htake]; simp) (by rw [hpub]; simp)
            refine ⟨_, _, _, hkp, ?_, by simpa only [appS, AS.setOwn, hnl2] using k1, k2⟩
            refine ((c1.append cy).mono k2.le).vr (B := B') (fun q v hv => by simpa using hv) (by simp) hroom ⟨B', (olds ++ news).length, m, ?_, by rw [hnl2]; exact Nat.le_refl _, fun _ => ⟨rfl, hmc, hcm0⟩⟩
            exact List.getElem?_set_self htl
          · have hgr := run_append_grow (P := P) (w := w) T o.type e' i z hu hi hz ⟨B', 0, none⟩ xs'.length cap olds hol (fun q v hv => by rw [Addr.add_lit]; exact g2.cell (by rw [Nat.zero_add]; exact c2 q v hv)) b ys.length c news hnl ry (by omega) h63
              (by rw [hby]; exact growslice_fits (by omega) hb)
            rw [hgr, hstep]
            have hge := grownCap_ge w (xs'.length + ys.length) cap e'
            have hcm := grownCap_le_maxLen w (xs'.length + ys.length) cap e' hml
            obtain ⟨k1, k2⟩ := g2.drew.ownRe hK (olds.toArray ++ news.toArray ++ Builtin.zeroCells z.cells (grownCap w (xs'.length + ys.length) cap e' - (xs'.length + ys.length))) (C := olds ++ news) (by simp) (by
              rw [← o1, hnl2]; exact Nat.mul_lt_mul_of_pos_right (by omega) hst)
            have hcap : (olds.toArray ++ news.toArray ++ Builtin.zeroCells z.cells (grownCap w (xs'.length + ys.length) cap e' - (xs'.length + ys.length))).size = grownCap w (xs'.length + ys.length) cap e' * st' := by
              rw [Array.size_append, zeros_size hzs, Array.size_append, List.size_toArray, List.size_toArray, c1.len, cy.len, ← Nat.add_mul, ← Nat.add_mul]; congr 1; omega
            refine ⟨_, _, _, hkp, ?_, by simpa only [appS, AS.setOwn, hnl2] using k1, (Ext.drew K w).trans k2⟩
            refine ((c1.append cy).mono k2.le).vr (B := w.heap.size) (fun q v hv => by simpa using hv) (by simp) hge ⟨w.heap.size, (olds ++ news).length, _, ?_, by rw [hnl2]; exact Nat.le_refl _, fun _ => ⟨rfl, hcap, hcm⟩⟩
            exact List.getElem?_set_self htl
      · cases ex
    · cases ex

end
end Go.Proofs.Ytfjeopaaplnoaaa.Av
