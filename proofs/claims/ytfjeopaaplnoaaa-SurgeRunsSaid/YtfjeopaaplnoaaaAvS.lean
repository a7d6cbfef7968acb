/-
  THE ABSTRACT WALK: '==' on structs; a slice of nil.
-/
import Derived.Test.YtfjeopaaplnoaaaAvR
import Derived.Laws.StructEq
namespace Go.Proofs.Ytfjeopaaplnoaaa.Av
open Go Go.RowKit
set_option linter.unusedSimpArgs false
set_option linter.unusedVariables false

def eqFs (P : Program) (q : TypeId → AV → AV → Option Bool) (xs ys : List AV) : List Field → Option Bool
  | [] => some true
  | f :: fs => if f.name = "_" then none else match lay P f.type with
    | some (g, n) => match pickCells g n xs f.offset, pickCells g n ys f.offset with
      | some a, some b => match q f.type a b, eqFs P q xs ys fs with
        | some r, some r' => some (r && r')
        | _, _ => none
      | _, _ => none
    | none => none

def eqA (P : Program) : Nat → TypeId → AV → AV → Option Bool
  | 0, _, _, _ => none
  | d + 1, T, x, y => match P.underlying T, x, y with
    | some (.int _), .sc (.int k a), .sc (.int k' b) => if k = k' then some (a == b) else none
    | some .bool, .sc (.bool a), .sc (.bool b) => some (a == b)
    | some (.struct fs), .agg xs, .agg ys => if P.stoodInHeld T then none else eqFs P (eqA P d) xs ys fs.toList
    | _, _, _ => none

/-- '==' on aggregates, reckoned. -/
def aggEqw (P : Program) (T : TypeId) (xs ys : List AV) : Option Bool :=
  if P.eqGuardType P.depth T then none else eqA P 20 T (.agg xs) (.agg ys)

section
variable {P : Program}

theorem fieldsOf_eq {T : TypeId} {fs : Array Field} (h : P.underlying T = some (.struct fs)) : P.fieldsOf T = fs := by
  unfold Program.fieldsOf; rw [h]

theorem eqFs_run {K : KW} {q : TypeId → AV → AV → Option Bool} {d : Nat} (hq : ∀ T x y r rx ry (w : World), q T x y = some r → VR K x rx → VR K y ry → (Op.equalIn d T rx ry).run P w = .ok r w)
    {xs ys : List AV} {rx ry : Array Value} (hx : VR K (.agg xs) (.agg rx)) (hy : VR K (.agg ys) (.agg ry)) (w : World) :
    ∀ (fs : List Field) (r : Bool), eqFs P q xs ys fs = some r → (Op.eqFields d rx ry fs).run P w = .ok r w
  | [], r, h => by simp only [eqFs, Option.some.injEq] at h; subst h; simp [Op.eqFields]
  | f :: fs, r, h => by
    unfold eqFs at h
    split at h
    · cases h
    · rename_i hname
      split at h
      · rename_i g n hl
        split at h
        · rename_i a b ha hb
          split at h
          · rename_i r1 r2 e1 e2
            simp only [Option.some.injEq] at h
            subst h
            obtain ⟨va, p1, p2⟩ := part_run (P := P) hl hx ha w
            obtain ⟨vb, k1, k2⟩ := part_run (P := P) hl hy hb w
            have h1 := hq _ _ _ _ _ _ w e1 p2 k2
            have h2 := eqFs_run hq hx hy w fs r2 e2
            unfold Op.eqFields
            rw [if_pos hname]
            simp only [Sem.run_bind, p1, k1, h1, Result.andThen_ok, Sem.run_ite]
            cases r1
            · simp
            · simp [h2]
          · cases h
        · cases h
      · cases h

theorem eqA_run {K : KW} : ∀ (d : Nat) (D : Nat), d ≤ D → ∀ (T : TypeId) (x y : AV) (r : Bool) (rx ry : Value) (w : World), eqA P d T x y = some r → VR K x rx → VR K y ry → (Op.equalIn D T rx ry).run P w = .ok r w
  | 0, _, _, T, x, y, r, rx, ry, w, h, _, _ => by simp [eqA] at h
  | d + 1, 0, hD, T, x, y, r, rx, ry, w, h, _, _ => by omega
  | d + 1, D + 1, hD, T, x, y, r, rx, ry, w, h, hx, hy => by
    unfold eqA at h
    split at h
    · rename_i k0 k a k' b hu
      split at h
      · rename_i hk
        subst hk
        cases hx; cases hy
        simp only [Option.some.injEq] at h
        subst h
        exact run_equalIn_int w D T k k0 a b hu
      · cases h
    · rename_i a b hu
      cases hx; cases hy
      simp only [Option.some.injEq] at h
      subst h
      exact run_equalIn_bool w D T a b hu
    · rename_i fs xs ys hu
      split at h
      · cases h
      · rename_i hp
        cases hx with
        | @agg _ rx a1 a2 a3 =>
        cases hy with
        | @agg _ ry b1 b2 b3 =>
        have hfs := fieldsOf_eq hu
        rw [run_equalIn_struct w D T rx ry (by rw [hfs]; exact hu) (by simpa using hp), hfs]
        exact eqFs_run (fun T x y r rx ry w h1 h2 h3 => eqA_run d D (by omega) T x y r rx ry w h1 h2 h3) (.agg a1 a2 a3) (.agg b1 b2 b3) w _ _ h
    · cases h

theorem aggEq_run {op : BinOp} {T : TypeId} {xs ys : List AV} {r : Bool} (h : aggEqw P T xs ys = some r) : (op = .eql → AggEq P op T xs ys r) ∧ (op = .neq → AggEq P op T xs ys (!r)) := by
  unfold aggEqw at h
  split at h
  · cases h
  · rename_i hg
    have hg : P.eqGuardType P.depth T = false := by simpa using hg
    refine ⟨?_, ?_⟩
    · rintro rfl K x y rx ry w hx hy
      simp only [Sem.run_bind, run_eqGuard_agg w _ T x y rx ry hg, Result.andThen_ok]
      rw [run_eql_struct, eqA_run 20 10000 (by omega) T _ _ r _ _ w h hx hy]; rfl
    · rintro rfl K x y rx ry w hx hy
      simp only [Sem.run_bind, run_eqGuard_agg w _ T x y rx ry hg, Result.andThen_ok]
      rw [run_neq_struct, eqA_run 20 10000 (by omega) T _ _ r _ _ w h hx hy]; rfl

variable {o : Oper} {t : List AV} {S : AS} {Kp : AV → AS → Prop}

/-- 's[0:0:0]' of nil. -/
theorem AOp.sliceNil {T : TypeId} {x : Operand} {y z : Operand} {ky kz : IntKind} {st : Nat} (ho : o.op = .slice T x none (some y) (some z)) (hx : okConst x = true) (hy : okConst y = true) (hz : okConst z = true)
    (he : aelem P T = some st) (hex : ev t x = .sc (.slice none 0 0)) (hey : ev t y = .sc (.int ky 0)) (hez : ev t z = .sc (.int kz 0)) (h : Kp (.sc (.slice none 0 0)) S) : AOp P o t S Kp := by
  refine AOp.val (by rw [ho]; exact fun _ h => (nomatch h)) h fun K a w g1 _ => ?_
  have e1 := g1.ev x hx (by rw [ho]; simp [Op.operands, Call.operands])
  have e2 := g1.ev y hy (by rw [ho]; simp [Op.operands, Call.operands])
  have e3 := g1.ev z hz (by rw [ho]; simp [Op.operands, Call.operands])
  rw [hex] at e1
  rw [hey] at e2
  rw [hez] at e3
  obtain ⟨e, i, hu, hi', hsz⟩ := aelem_run he
  have hrun : (execOp a.eval o).run P w = .ok (.value (.slice none 0 0)) w := by
    simp [execOp, ho, e1.scv, Instr.sliceAt, Instr.slice, run_underlying hu, Instr.sliceBounds, Instr.sliceBound, e2.scv, e3.scv, asIntOf, sizeOf, typeInfo, hi']
  exact ⟨_, hrun, .sc rfl⟩

/-- 's[lo:hi]' of nil. -/
theorem AOp.sliceNil2 {T : TypeId} {x : Operand} {lo hi : Option Operand} {st : Nat} (ho : o.op = .slice T x lo hi none) (hx : okConst x = true)
    (he : aelem P T = some st) (hex : ev t x = .sc (.slice none 0 0)) (hlo : boundIs t lo 0 0) (hhi : boundIs t hi 0 0) (h : Kp (.sc (.slice none 0 0)) S) : AOp P o t S Kp := by
  refine AOp.val (by rw [ho]; exact fun _ h => (nomatch h)) h fun K a w g1 _ => ?_
  have e1 := g1.ev x hx (by rw [ho]; simp [Op.operands, Call.operands])
  rw [hex] at e1
  obtain ⟨e, i, hu, hi', hsz⟩ := aelem_run he
  have hb : ∀ (y : Option Operand), (∀ z, y = some z → z ∈ o.op.operands) → boundIs t y 0 0 → (y = none ∨ ∃ z ki, y = some z ∧ a.eval z = .int ki 0) := by
    intro y hm hy
    unfold boundIs boundE at hy
    split at hy
    · exact .inl rfl
    · rename_i z
      obtain ⟨hk, ki, hz⟩ := hy
      have e2 := g1.ev z hk (hm z rfl)
      rw [hz] at e2
      exact .inr ⟨z, ki, rfl, e2.scv⟩
  have hrun : (execOp a.eval o).run P w = .ok (.value (.slice none 0 0)) w := by
    rcases hb lo (fun z hz => by rw [ho, hz]; simp [Op.operands, Call.operands]) hlo with rfl | ⟨z1, k1, rfl, q1⟩ <;>
    rcases hb hi (fun z hz => by rw [ho, hz]; simp [Op.operands, Call.operands]) hhi with rfl | ⟨z2, k2, rfl, q2⟩ <;>
    simp [execOp, ho, e1.scv, Instr.sliceAt, Instr.slice, run_underlying hu, Instr.sliceBounds, Instr.sliceBound, *, asIntOf, sizeOf, typeInfo, hi']
  exact ⟨_, hrun, .sc rfl⟩

end
end Go.Proofs.Ytfjeopaaplnoaaa.Av
