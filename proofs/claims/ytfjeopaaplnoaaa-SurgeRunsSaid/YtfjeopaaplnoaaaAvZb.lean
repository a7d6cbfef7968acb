/-
  THE GUIDED WALK (3): regions that draw their order; code.
-/
import Derived.Test.YtfjeopaaplnoaaaAvZ
namespace Go.Proofs.Ytfjeopaaplnoaaa.Av
open Go Go.RowKit
set_option linter.unusedSimpArgs false
set_option linter.unusedVariables false

section
variable {P : Program} {G : GI} {n : Nat}

theorem abuiltinw_same {b : Builtin} {xs : List Operand} {Ts : List TypeId} {e : Operand → AV} {S : AS} {Kp : AV → AS → Prop} (hb : b = .len ∨ b = .max ∨ b = .min) (h : abuiltinw P b xs Ts e S Kp) : abuiltinw P b xs Ts e S (fun v S' => S' = S ∧ Kp v S') := by
  unfold abuiltinw at h ⊢
  split at h
  · split at h
    · split at h
      · exact ⟨rfl, h⟩
      · exact h.elim
    · split at h
      · exact ⟨rfl, h⟩
      · exact h.elim
    · exact h.elim
  · split at h
    · exact ⟨rfl, h⟩
    · exact h.elim
  · split at h
    · exact ⟨rfl, h⟩
    · exact h.elim
  · rcases hb with hb | hb | hb <;> cases hb
  · exact h.elim

theorem aopw_same {o : Oper} {e : Operand → AV} {S : AS} {Kp : AV → AS → Prop} (hd : detOp o.op = true) (hc : ∀ f as Ts, o.op ≠ .call { callee := .value f, args := as, argTypes := Ts }) (h : aopw P o e S Kp) :
    aopw P o e S (fun v S' => S' = S ∧ Kp v S') := by
  unfold aopw at h ⊢
  split at h
  case h_3 =>
    split at h
    · exact ⟨fun k => ⟨rfl, h.t k⟩, fun k => ⟨rfl, h.f k⟩⟩
    · exact h.elim
  case h_4 T ho => rw [ho] at hd; cases hd
  case h_5 T x ho => rw [ho] at hd; cases hd
  case h_7 =>
    obtain ⟨st, hs, h1, h2, h3, h4⟩ := h
    exact ⟨st, hs, h1, h2, h3, rfl, h4⟩
  case h_9 T x y ho => rw [ho] at hd; cases hd
  case h_11 => exact abinw_mono h (fun v hv => ⟨rfl, hv⟩)
  case h_17 =>
    split at h
    · obtain ⟨h1, h2, u, h3, h4⟩ := h; exact ⟨h1, h2, someW_of h3 ⟨rfl, h4⟩⟩
    · split at h
      · exact ⟨h.1, h.2.1, rfl, h.2.2⟩
      · exact h.elim
    · exact h.elim
  case h_18 =>
    split at h
    · obtain ⟨h1, h2, u, h3, h4⟩ := h; exact ⟨h1, h2, someW_of h3 ⟨rfl, h4⟩⟩
    · exact h.elim
  case h_20 =>
    split at h
    · obtain ⟨h1, l, hh, h2, h3, h4, h5, h6⟩ := h; exact ⟨h1, l, hh, h2, h3, h4, h5, rfl, h6⟩
    · obtain ⟨h1, h2, h3, h4⟩ := h; exact ⟨h1, h2, h3, rfl, h4⟩
    · exact h.elim
  case h_21 =>
    split at h
    · exact ⟨h.1, rfl, h.2⟩
    · exact ⟨h.1, rfl, h.2⟩
    · exact h.elim
  case h_22 f as Ts ho => exact absurd ho (hc f as Ts)
  case h_23 b as Ts ho =>
    refine abuiltinw_same ?_ h
    rw [ho] at hd
    unfold detOp at hd
    split at hd <;> simp_all
  case h_24 => exact h.elim
  all_goals first
    | exact ⟨rfl, h⟩
    | (split at h <;> first
        | exact ⟨rfl, h⟩
        | exact h.elim
        | (split at h <;> first
            | exact ⟨rfl, h⟩
            | exact h.elim))

theorem gdet_sound {o : Oper} {e : Operand → AV} {S : AS} {tr : Tr} {R : AV → Tr → Prop} (hd : detOp o.op = true) (h : gdet P o e S tr R) : adetw P o e S (fun v => ∃ tr, R v tr) := by
  unfold adetw
  unfold gdet at h
  split at h
  · rename_i f args Ts ho
    simp only [ho]
    split at h
    · rename_i g fs cs e1
      split at h
      · unfold callW; simp only [e1]; exact callG.by h.1 ⟨_, h.2⟩
      · cases h
      · exact h.elim
    · exact h.elim
  · rename_i hc
    have hc : ∀ f as Ts, o.op ≠ .call { callee := .value f, args := as, argTypes := Ts } := fun f as Ts e => hc f as Ts e
    have := aopw_same hd hc (gop_aopw noGI_ok (fun f as Ts l e => absurd e (hc f as Ts)) h)
    split
    · rename_i f args Ts ho; exact absurd ho (hc f args Ts)
    · exact this

/-- A load that has come up, of what is loaded now. -/
theorem gdet_load {o : Oper} {e : Operand → AV} {S : AS} {tr : Tr} {R : AV → Tr → Prop} {T : TypeId} {x : Operand} (ho : o.op = .load T x) (h : gdet P o e S tr R) : gdet P o e S tr (fun v tr => R v tr ∧ aload P T S (e x) = some v) := by
  unfold gdet at h ⊢
  simp only [gop, ho] at h ⊢
  split at h
  · rename_i v hv; exact ⟨h, hv⟩
  · exact h.elim

theorem glate_use {ms : List Nat} {k : Nat} {w : Wr} {S S' : AS} {R : List Lo → Prop} (hK : Keeps P w S S') : ∀ (l acc : List Lo), LoOk P l S → LoOk P acc S' → glate P ms k w S' l acc R →
    ∃ late, R late ∧ LoOk P late S' ∧ (∀ q ∈ l, (ms.getD k 0).testBit q.k = false → aload P q.T S' q.p = some q.v) ∧ (∀ q ∈ l, ∃ b, { q with live := b } ∈ late) ∧ (∀ q ∈ acc, q ∈ late)
  | [], acc, _, ha, h => ⟨acc, h, ha, fun q hq => by simp at hq, fun q hq => by simp at hq, fun q hq => hq⟩
  | q :: l, acc, hl, ha, h => by
    have hl' : LoOk P l S := fun x hx => hl x (List.mem_cons_of_mem _ hx)
    unfold glate at h
    split at h
    · rename_i hs
      have hv : aload P q.T S' q.p = some q.v := by
        unfold loSkip at hs
        split at hs
        · cases hs
        · rename_i hlv
          refine hK _ _ _ (hl q (List.mem_cons_self ..) hlv) ?_
          cases w with
          | no => trivial
          | any => cases hs
          | box b =>
            simp only at hs ⊢
            split at hs
            · simpa using hs
            · trivial
            · cases hs
      obtain ⟨late, h1, h2, h3, h4, h5⟩ := glate_use hK l (q :: acc) hl' (fun x hx => by
        rcases List.mem_cons.1 hx with rfl | hx
        · exact fun _ => hv
        · exact ha x hx) h
      refine ⟨late, h1, h2, fun x hx hb => ?_, fun x hx => ?_, fun x hx => h5 x (List.mem_cons_of_mem _ hx)⟩
      · rcases List.mem_cons.1 hx with rfl | hx
        · exact hv
        · exact h3 x hx hb
      · rcases List.mem_cons.1 hx with rfl | hx
        · exact ⟨x.live, h5 x (List.mem_cons_self ..)⟩
        · exact h4 x hx
    · split at h
      · rename_i hb
        obtain ⟨late, h1, h2, h3, h4, h5⟩ := glate_use hK l _ hl' (fun x hx => by
          rcases List.mem_cons.1 hx with rfl | hx
          · intro hh; cases hh
          · exact ha x hx) h
        refine ⟨late, h1, h2, fun x hx hb' => ?_, fun x hx => ?_, fun x hx => h5 x (List.mem_cons_of_mem _ hx)⟩
        · rcases List.mem_cons.1 hx with rfl | hx
          · rw [hb] at hb'; cases hb'
          · exact h3 x hx hb'
        · rcases List.mem_cons.1 hx with rfl | hx
          · exact ⟨_, h5 _ (List.mem_cons_self ..)⟩
          · exact h4 x hx
      · obtain ⟨hv, h⟩ := h
        obtain ⟨late, h1, h2, h3, h4, h5⟩ := glate_use hK l _ hl' (fun x hx => by
          rcases List.mem_cons.1 hx with rfl | hx
          · exact fun _ => hv
          · exact ha x hx) h
        refine ⟨late, h1, h2, fun x hx hb' => ?_, fun x hx => ?_, fun x hx => h5 x (List.mem_cons_of_mem _ hx)⟩
        · rcases List.mem_cons.1 hx with rfl | hx
          · exact hv
          · exact h3 x hx hb'
        · rcases List.mem_cons.1 hx with rfl | hx
          · exact ⟨_, h5 _ (List.mem_cons_self ..)⟩
          · exact h4 x hx

def LoInv (P : Program) (late : Late) (ld : List Lo) : Prop :=
  ∀ q ∈ late, (∀ S, ADet P q.2.1 q.2.2.1 S q.2.2.2) ∨ (okOp q.2.1 = true ∧ ∃ T x b, q.2.1.op = .load T x ∧ (⟨q.1, T, ev q.2.2.1 x, q.2.2.2, b⟩ : Lo) ∈ ld)

theorem LoInv.step {late : Late} {ld ld' : List Lo} (h : LoInv P late ld) (hm : ∀ q ∈ ld, ∃ b, { q with live := b } ∈ ld') : LoInv P late ld' := by
  intro q hq
  rcases h q hq with h | ⟨h1, T, x, b, h2, h3⟩
  · exact .inl h
  · obtain ⟨b', h4⟩ := hm _ h3
    exact .inr ⟨h1, T, x, b', h2, h4⟩

theorem LoInv.ok {ops : Array Oper} {late : Late} {ld : List Lo} {k : Nat} {S : AS} (h : LoInv P late ld) (hl : ∀ q ∈ ld, ((masksOf ops).getD k 0).testBit q.k = false → aload P q.T S q.p = some q.v) : LateOk P late (waits ops k) S := by
  intro q hq hw
  rcases h q hq with h | ⟨hok, T, x, b, ho, hm⟩
  · exact h S
  · have := hl _ hm hw
    refine aopw_sound hok ?_
    unfold aopw
    simp only [ho, this]
    exact ⟨by trivial, by trivial⟩

theorem gD_sound (hG : GIok P G) {ops : Array Oper} {K : KS} {Q : St → AS → Prop} (hK : ∀ st S tr, K st S tr → Q st S) : ∀ (l : List Oper) (k : Nat) (late : Late) (ld : List Lo) (pa : List (List AV)) (kn : Kn) (t : List AV) (S : AS) (tr : Tr),
    (∀ o ∈ l, dstOk n o = true ∧ okOp o = true) → t.length = n → LoInv P late ld → LoOk P ld S → KnOk (lk t) kn → gD P G ops (masksOf ops) K k l ld pa kn (lk t) S tr → AWg P ops ixD (fun t S => t.length = n ∧ Q (lk t) S) k l late pa t S
  | [], k, late, ld, pa, kn, t, S, tr, _, hl, _, _, _, h => ⟨hl, hK _ _ tr (by simp only [gD, gpush_eq] at h; exact h)⟩
  | o :: l, k, late, ld, pa, kn, t, S, tr, hd, hl, hi, hlo, hkn, h => by
    have hdo := (hd o (List.mem_cons_self ..)).1
    have hoo := (hd o (List.mem_cons_self ..)).2
    have hd' : ∀ o ∈ l, dstOk n o = true ∧ okOp o = true := fun o ho => hd o (List.mem_cons_of_mem _ ho)
    unfold gD at h
    simp only [gpush_eq] at h
    unfold AWg
    split at h
    · rename_i ha
      rw [if_pos ha]
      split at h
      · rename_i T hT
        split at h
        · rename_i cs hz
          obtain ⟨q1, q2⟩ := lk_put hl hdo (.ptr (S.box.length + pa.length) 0)
          exact ⟨T, cs, hT, hz, gD_sound hG hK l _ late ld _ _ _ S tr hd' q2 hi hlo (q1 ▸ hkn.put _ _) (q1 ▸ h)⟩
        · exact h.elim
      · exact h.elim
    · rename_i ha
      rw [if_neg (by simp [ha])]
      split at h
      · rename_i hx
        rw [if_pos hx, awanted_lk]
        obtain ⟨h1, h2⟩ := ggrd_use hkn h
        split
        · rename_i hw
          obtain ⟨kn1, tr1, hk1, h1⟩ := h1 hw
          rw [evF_lk] at h1
          refine (gop_sound hG hoo (gop_keeps h1)).mono (fun v S' ⟨tr2, hv, hkeep⟩ => ?_)
          obtain ⟨q1, q2⟩ := lk_put hl hdo v
          obtain ⟨ld', r1, r2, r3, r4, _⟩ := glate_use hkeep _ _ (hlo.pushes pa) (fun q hq => by simp at hq) hv
          exact ⟨hi.ok r3, gD_sound hG hK l _ late ld' _ _ _ S' tr2 hd' q2 (hi.step r4) r2 (q1 ▸ hk1.put _ _) (q1 ▸ r1)⟩
        · rename_i hw
          obtain ⟨kn1, tr1, hk1, h2⟩ := h2 (by simpa using hw)
          obtain ⟨q1, q2⟩ := lk_put hl hdo (.tup [])
          obtain ⟨ld', r1, r2, r3, r4, _⟩ := glate_use (keeps_box (S := S.pushes pa) (S' := S.pushes pa) (fun _ _ h => h)) _ _ (hlo.pushes pa) (fun q hq => by simp at hq) h2
          exact ⟨hi.ok r3, gD_sound hG hK l _ late ld' _ _ _ _ tr1 hd' q2 (hi.step r4) r2 (q1 ▸ hk1.put _ _) (q1 ▸ r1)⟩
      · rename_i hx
        rw [if_neg (by simp [hx]), awanted_lk]
        obtain ⟨h1, h2⟩ := ggrd_use hkn h
        split
        · rename_i hw
          obtain ⟨kn1, tr1, hk1, h1⟩ := h1 hw
          rw [evF_lk] at h1
          have hdet : detOp o.op = true := by simpa [ixD] using hx
          -- a load: it is what is loaded now
          have h1' : gdet P o (ev t) S tr1 (fun v tr => gD P G ops (masksOf ops) K (k + 1) l (addLo o k (ev t) v ld) pa (knPut kn1 o.dst) (putF (lk t) o.dst v) S tr ∧ (∀ T x, o.op = .load T x → aload P T S (ev t x) = some v)) := by
            by_cases hld : ∃ T x, o.op = .load T x
            · obtain ⟨T, x, ho⟩ := hld
              have := gdet_load ho h1
              have e : (fun v tr => (gD P G ops (masksOf ops) K (k + 1) l (addLo o k (ev t) v ld) pa (knPut kn1 o.dst) (putF (lk t) o.dst v) S tr ∧ aload P T S (ev t x) = some v)) =
                  (fun v tr => gD P G ops (masksOf ops) K (k + 1) l (addLo o k (ev t) v ld) pa (knPut kn1 o.dst) (putF (lk t) o.dst v) S tr ∧ (∀ T x, o.op = .load T x → aload P T S (ev t x) = some v)) := by
                funext v tr
                refine propext ⟨fun h => ⟨h.1, fun T' x' ho' => ?_⟩, fun h => ⟨h.1, h.2 T x ho⟩⟩
                rw [ho] at ho'; cases ho'; exact h.2
              rw [← e]; exact this
            · have e : (fun v tr => gD P G ops (masksOf ops) K (k + 1) l (addLo o k (ev t) v ld) pa (knPut kn1 o.dst) (putF (lk t) o.dst v) S tr) =
                  (fun v tr => gD P G ops (masksOf ops) K (k + 1) l (addLo o k (ev t) v ld) pa (knPut kn1 o.dst) (putF (lk t) o.dst v) S tr ∧ (∀ T x, o.op = .load T x → aload P T S (ev t x) = some v)) := by
                funext v tr
                exact propext ⟨fun h => ⟨h, fun T x ho => absurd ⟨T, x, ho⟩ hld⟩, fun h => h.1⟩
              rw [← e]; exact h1
          obtain ⟨v, g1, ⟨tr2, g2, g4⟩, g3⟩ := adetw_sound hoo hdet (gdet_sound hdet h1')
          obtain ⟨q1, q2⟩ := lk_put hl hdo v
          refine ⟨v, g1, gD_sound hG hK l _ _ _ pa _ _ S tr2 hd' q2 ?_ ?_ (q1 ▸ hk1.put _ _) (q1 ▸ g2)⟩
          · intro q hq
            rcases List.mem_cons.1 hq with rfl | hq
            · rcases g3 with g3 | g3
              · exact .inl g3
              · right
                refine ⟨hoo, ?_⟩
                simp only
                unfold indepOp at g3
                split at g3
                · rename_i T x ho
                  refine ⟨_, _, true, ho, ?_⟩
                  unfold addLo
                  simp only [ho]
                  exact List.mem_cons_self ..
                · rw [hdet] at g3; cases g3
            · rcases hi q hq with h | ⟨h4, T, x, b, ho, hm⟩
              · exact .inl h
              · refine .inr ⟨h4, T, x, b, ho, ?_⟩
                unfold addLo
                split
                · exact List.mem_cons_of_mem _ hm
                · exact hm
          · intro q hq
            unfold addLo at hq
            split at hq
            · rename_i T x ho
              rcases List.mem_cons.1 hq with rfl | hq
              · exact fun _ => g4 _ _ ho
              · exact hlo q hq
            · exact hlo q hq
        · rename_i hw
          obtain ⟨kn1, tr1, hk1, h2⟩ := h2 (by simpa using hw)
          obtain ⟨q1, q2⟩ := lk_put hl hdo (.tup [])
          exact gD_sound hG hK l _ late ld pa _ _ S tr1 hd' q2 hi hlo (q1 ▸ hk1.put _ _) (q1 ▸ h2)

/-! ### Code -/

abbrev KC := Exit → St → AS → Tr → Prop

/-- What is asked of a text once. -/
def codeG (P : Program) (n : Nat) : Code → Bool
  | .seq a b => codeG P n a && codeG P n b
  | .cond x a b => okConst x && (codeG P n a && codeG P n b)
  | .block _ c => codeG P n c
  | .loop c => codeG P n c
  | .region _ ops false => ops.toList.all okOp && ops.toList.all (dstOk n)
  | .region _ ops true => ops.toList.all okOp && (ops.toList.all (dstOk n) && (drawOk ops ixD && allocOk P ops))
  | .rangeFunc f ps a b => okConst f && (ps.toList.all (fun p => Nat.blt p n) && (codeG P n a && codeG P n b))
  | _ => true

def bodyF (fn : Func) : Code := match fn.body with
  | some c => c
  | none => .skip
def fnB (P : Program) (f : FuncId) (fn : Func) : Bool := callable P f && (fn.body.isSome && codeG P fn.ntmps (bodyF fn))
structure FnOk (P : Program) (f : FuncId) (fn : Func) : Prop where
  get : P.funcs[f]? = some fn
  ok : fnB P f fn = true
theorem FnOk.body {P : Program} {f : FuncId} {fn : Func} (h : FnOk P f fn) : fn.body = some (bodyF fn) := by
  have := h.ok
  unfold fnB bodyF at *
  cases hb : fn.body with
  | some c => rfl
  | none => rw [hb] at this; simp at this
theorem FnOk.call {P : Program} {f : FuncId} {fn : Func} (h : FnOk P f fn) : callable P f = true := by
  have := h.ok
  unfold fnB at this
  simp only [Bool.and_eq_true] at this
  exact this.1
theorem FnOk.code {P : Program} {f : FuncId} {fn : Func} (h : FnOk P f fn) : codeG P fn.ntmps (bodyF fn) = true := by
  have := h.ok
  unfold fnB at this
  simp only [Bool.and_eq_true] at this
  exact this.2.2

/-- The functions that may be entered in their place. -/
abbrev FT := List (FuncId × Func)
def ftGet : FT → FuncId → Option Func
  | [], _ => none
  | (g, q) :: l, f => match Nat.beq g f with
    | true => some q
    | false => ftGet l f
def ftOk (P : Program) : FT → Prop
  | [] => True
  | q :: T => FnOk P q.1 q.2 ∧ ftOk P T
theorem ftGet_ok : ∀ {T : FT} {f : FuncId} {q : Func}, ftOk P T → ftGet T f = some q → FnOk P f q
  | (g, q') :: l, f, q, hT, h => by
    unfold ftGet at h
    split at h
    · rename_i e
      have e := Nat.eq_of_beq_eq_true e
      simp only [Option.some.injEq] at h
      subst e; subst h
      exact hT.1
    · exact ftGet_ok hT.2 h

theorem AWl.mono {c : Code} {Q Q' : Exit → List AV → AS → Prop} {t : List AV} {S : AS} (h : AWl P c Q t S) (hq : ∀ e t S, Q e t S → Q' e t S) : AWl P c Q' t S := by
  intro rd B K a w h1 h2 h3 h4 b k cs hro
  obtain ⟨e, a', w', hp, ha⟩ := h rd B K a w h1 h2 h3 h4 b k cs hro
  exact ⟨e, a', w', hp.imp (hq e), ha⟩

/-- One of these ways out. -/
def AltQ (al : List Alt) (e : Exit) (st : St) (S : AS) : Prop := ∃ a ∈ al, a.c ∧ e = a.e ∧ Facts st a.post ∧ ∀ S1, a.S = some S1 → S = S1

/-- A loop, from its first round: it is left in one of these ways. -/
structure LoopC (P : Program) (n : Nat) (c : Code) (pre : List (Nat × AV)) (S : AS) (al : List Alt) : Prop where
  out : P.follows .mixedOrders = true → codeG P n c = true → ∀ t, t.length = n → Facts (lk t) pre → AWl P c (QL n (AltQ al)) t S
/-- A range over a function. -/
structure RangeC (P : Program) (n : Nat) (f : Operand) (ps : Array Tmp) (x c : Code) (pre : List (Nat × AV)) (S : AS) (al : List Alt) : Prop where
  out : P.follows .mixedOrders = true → codeG P n (.rangeFunc f ps x c) = true → ∀ t, t.length = n → Facts (lk t) pre → AW P (.rangeFunc f ps x c) (fun e' t' S'' => t' = t ∧ AltQ al e' (lk t) S'') t S

def keysOf (ks : List Nat) (st : St) : List (Nat × AV) := ks.map fun k => (k, st k)

theorem facts_keys (st : St) : ∀ ks : List Nat, Facts st (keysOf ks st)
  | [] => trivial
  | k :: ks => ⟨rfl, facts_keys st ks⟩

def gret (P : Program) (rs : List ResultVar) (Kp : KO) : KC
  | .normal, st, S, tr => match aresF P st S rs with
    | some v => Kp v S tr
    | none => False
  | .ret, st, S, tr => match aresF P st S rs with
    | some v => Kp v S tr
    | none => False
  | _, _, _, _ => False

def ginl (T : FT) (run : Nat → Code → St → AS → Tr → KC → Prop) (P : Program) : GI := fun f args S tr Kp =>
  match ftGet T f with
  | some fn => gif (Nat.ble args.length fn.ntmps) (run fn.ntmps (bodyF fn) (ini args) S tr (gret P fn.results.toList Kp))
  | none => False

def gthen (R : KS) (K : KC) : KC
  | .normal, st, S, tr => R st S tr
  | e, st, S, tr => K e st S tr
def gblock (id : Nat) (K : KC) : KC
  | .exit id', st, S, tr => match Nat.beq id' id with
    | true => K .normal st S tr
    | false => K (.exit id') st S tr
  | e, st, S, tr => K e st S tr

def galts (K : KC) : List Alt → List Tr → Prop
  | [a], [k] => a.c → (match a.S with
    | some S' => ∀ j : St, K a.e (upds j a.post) S' k
    | none => ∀ (j : St) (S' : AS), K a.e (upds j a.post) S' k)
  | a :: al, k :: kl => (a.c → (match a.S with
    | some S' => ∀ j : St, K a.e (upds j a.post) S' k
    | none => ∀ (j : St) (S' : AS), K a.e (upds j a.post) S' k)) ∧ galts K al kl
  | _, _ => False
def galtr (K : KC) (st : St) : List Alt → List Tr → Prop
  | [a], [k] => a.c → (match a.S with
    | some S' => K a.e st S' k
    | none => ∀ (S' : AS), K a.e st S' k)
  | a :: al, k :: kl => (a.c → (match a.S with
    | some S' => K a.e st S' k
    | none => ∀ (S' : AS), K a.e st S' k)) ∧ galtr K st al kl
  | _, _ => False
theorem galts_use {K : KC} : ∀ {al : List Alt} {kl : List Tr}, galts K al kl → ∀ a ∈ al, ∃ k, a.c → (match a.S with
    | some S' => ∀ j : St, K a.e (upds j a.post) S' k
    | none => ∀ (j : St) (S' : AS), K a.e (upds j a.post) S' k)
  | [], _, h, a, ha => by cases ha
  | [a], [k], h, x, hx => by
    rw [List.mem_singleton] at hx
    subst hx
    exact ⟨k, h⟩
  | [a], [], h, x, hx => h.elim
  | [a], k :: k2 :: kl, h, x, hx => by
    simp only [galts] at h
    exact h.2.elim
  | a :: b :: al, [], h, x, hx => h.elim
  | a :: b :: al, k :: kl, h, x, hx => by
    simp only [galts] at h
    rcases List.mem_cons.1 hx with e | hx
    · exact ⟨k, e ▸ h.1⟩
    · exact galts_use h.2 x hx
theorem galtr_use {K : KC} {st : St} : ∀ {al : List Alt} {kl : List Tr}, galtr K st al kl → ∀ a ∈ al, ∃ k, a.c → (match a.S with
    | some S' => K a.e st S' k
    | none => ∀ (S' : AS), K a.e st S' k)
  | [], _, h, a, ha => by cases ha
  | [a], [k], h, x, hx => by
    rw [List.mem_singleton] at hx
    subst hx
    exact ⟨k, h⟩
  | [a], [], h, x, hx => h.elim
  | [a], k :: k2 :: kl, h, x, hx => by
    simp only [galtr] at h
    exact h.2.elim
  | a :: b :: al, [], h, x, hx => h.elim
  | a :: b :: al, k :: kl, h, x, hx => by
    simp only [galtr] at h
    rcases List.mem_cons.1 hx with e | hx
    · exact ⟨k, e ▸ h.1⟩
    · exact galtr_use h.2 x hx

inductive AskL (n : Nat) (c : Code) (st : St) (S : AS) (K : KC) (U : Tr → Prop) : Prop
inductive AskR (n : Nat) (f : Operand) (ps : Array Tmp) (x c : Code) (st : St) (S : AS) (K : KC) : Prop

def gC (P : Program) (T : FT) : Nat → Nat → Code → St → AS → Tr → KC → Prop
  | 0, _, _, _, _, _, _ => False
  | m + 1, n, c, st, S, tr, K => match c with
    | .skip => K .normal st S tr
    | .label _ => K .normal st S tr
    | .exit id => K (.exit id) st S tr
    | .ret => K .ret st S tr
    | .seq a b => gC P T m n a st S tr (gthen (fun st S tr => gC P T m n b st S tr K) K)
    | .cond x a b => match evF st x with
      | .sc (.bool q) => gtest q tr (fun tr => gC P T m n a st S tr K) (fun tr => gC P T m n b st S tr K)
      | _ => False
    | .block id c => gC P T m n c st S tr (gblock id K)
    | .region _ ops false => gops P (ginl T (gC P T m) P) ops (K .normal) ops.toList [] st S tr
    | .region _ ops true => gD P (ginl T (gC P T m) P) ops (masksOf ops) (K .normal) 0 ops.toList [] [] [] st S tr
    | .loop c => match tr with
      | .r k => gC P T m n c st S k (gthen (fun st S tr => gC P T m n (.loop c) st S tr K) K)
      | .l ks al kl => LoopC P n c (keysOf ks st) S al ∧ galts K al kl
      | .q => AskL n c st S K (fun k => gC P T m n c st S k (gthen (fun st S tr => gC P T m n (.loop c) st S tr K) K))
      | _ => False
    | .rangeFunc f ps x c => match tr with
      | .g ks al kl => RangeC P n f ps x c (keysOf ks st) S al ∧ galtr K st al kl
      | .q => AskR n f ps x c st S K
      | _ => False
    | _ => False

theorem gC_sound2 (hm : P.follows .mixedOrders = true) {T : FT} (hT : ftOk P T) : ∀ (m n : Nat) (c : Code) (st : St) (S : AS) (tr : Tr) (K : KC) (Q : Exit → St → AS → Prop), (∀ e st S tr, K e st S tr → Q e st S) →
    gC P T m n c st S tr K → (codeG P n c = true → ∀ t, t.length = n → lk t = st → AW P c (QL n Q) t S) ∧ ∀ d, c = .loop d → codeG P n d = true → ∀ t, t.length = n → lk t = st → AWl P d (QL n Q) t S
  | 0, n, c, st, S, tr, K, Q, _, h => h.elim
  | m + 1, n, c, st, S, tr, K, Q, hQ, h => by
    have ih := fun n c st S tr K Q hQ h => (gC_sound2 hm hT m n c st S tr K Q hQ h).1
    have hG : GIok P (ginl T (gC P T m) P) := by
      intro f args S tr Kp h
      unfold ginl at h
      split at h
      · rename_i fn hg
        obtain ⟨hle, h⟩ := gif_use h
        have hle := Nat.le_of_ble_eq_true hle
        have hf := ftGet_ok hT hg
        refine ACall.of_body_all hf.get hf.body hf.call ((ih _ _ _ _ _ _ (OutF fun t' S2 => ∃ v, aresF P t' S2 fn.results.toList = some v ∧ ∃ tr, Kp v S2 tr) ?_ h hf.code (args ++ List.replicate (fn.ntmps - args.length) (.tup [])) (by simp; omega) (by rw [lk_ini])).mono ?_)
        · intro e st S tr h
          unfold gret at h
          split at h
          · split at h
            · rename_i v hv; exact ⟨v, hv, _, h⟩
            · exact h.elim
          · split at h
            · rename_i v hv; exact ⟨v, hv, _, h⟩
            · exact h.elim
          · exact h.elim
        · rintro e t' S' ⟨hl, hq⟩
          cases e with
          | normal => obtain ⟨v, h1, h2⟩ := hq; exact ⟨v, v, by rw [aresF_lk]; exact h1, VLe.refl _, h2⟩
          | ret => obtain ⟨v, h1, h2⟩ := hq; exact ⟨v, v, by rw [aresF_lk]; exact h1, VLe.refl _, h2⟩
          | _ => exact hq.elim
      · exact h.elim
    unfold gC at h
    cases c with
    | skip => exact ⟨fun _ t hl e => AW.skip ⟨hl, e ▸ hQ _ _ _ _ h⟩, fun _ h => by cases h⟩
    | label l => exact ⟨fun _ t hl e => AW.label ⟨hl, e ▸ hQ _ _ _ _ h⟩, fun _ h => by cases h⟩
    | exit id => exact ⟨fun _ t hl e => AW.exit ⟨hl, e ▸ hQ _ _ _ _ h⟩, fun _ h => by cases h⟩
    | ret => exact ⟨fun _ t hl e => AW.ret ⟨hl, e ▸ hQ _ _ _ _ h⟩, fun _ h => by cases h⟩
    | seq a b =>
      refine ⟨fun hr t hl e => ?_, fun _ h => by cases h⟩
      simp only [codeG, Bool.and_eq_true] at hr
      refine AW.seq ((ih _ _ _ _ _ _ (fun e st S => match e with
        | .normal => ∃ tr, gC P T m n b st S tr K
        | e => Q e st S) ?_ h hr.1 t hl e).mono ?_)
      · intro e st S tr h
        cases e with
        | normal => exact ⟨tr, h⟩
        | _ => exact hQ _ _ _ _ h
      · rintro e t' S' ⟨hl', hq⟩
        cases e with
        | normal => obtain ⟨tr', hq⟩ := hq; exact ih _ _ _ _ _ _ Q hQ hq hr.2 t' hl' rfl
        | exit id => exact ⟨hl', hq⟩
        | goto l => exact ⟨hl', hq⟩
        | ret => exact ⟨hl', hq⟩
        | panic ch => exact ⟨hl', hq⟩
        | outgrown => exact ⟨hl', hq⟩
    | cond x a b =>
      refine ⟨fun hr t hl e => ?_, fun _ h => by cases h⟩
      simp only [codeG, Bool.and_eq_true] at hr
      subst e
      simp only at h
      rw [evF_lk] at h
      split at h
      · rename_i q eq
        obtain ⟨h1, h2⟩ := gtest_use h
        exact AW.cond eq hr.1 (fun hc => let ⟨tr, h⟩ := h1 hc; ih _ _ _ _ _ _ Q hQ h hr.2.1 t hl rfl) (fun hc => let ⟨tr, h⟩ := h2 hc; ih _ _ _ _ _ _ Q hQ h hr.2.2 t hl rfl)
      · exact h.elim
    | block id c =>
      refine ⟨fun hr t hl e => ?_, fun _ h => by cases h⟩
      refine AW.block ((ih _ _ _ _ _ _ (blockF id Q) ?_ h hr t hl e).mono ?_)
      · intro e st S tr h
        cases e with
        | exit id' =>
          simp only [gblock] at h
          simp only [blockF]
          split at h
          · rename_i e; rw [if_pos (Nat.eq_of_beq_eq_true e)]; exact hQ _ _ _ _ h
          · rename_i e; rw [if_neg (by intro e'; subst e'; simp at e)]; exact hQ _ _ _ _ h
        | normal => exact hQ _ _ _ _ h
        | goto l => exact hQ _ _ _ _ h
        | ret => exact hQ _ _ _ _ h
        | panic ch => exact hQ _ _ _ _ h
        | outgrown => exact hQ _ _ _ _ h
      · rintro e t' S' ⟨hl', hq⟩
        cases e with
        | exit id' =>
          simp only [blockF, blockQ] at hq ⊢
          split
          · rename_i e; rw [if_pos e] at hq; exact ⟨hl', hq⟩
          · rename_i e; rw [if_neg e] at hq; exact ⟨hl', hq⟩
        | normal => exact ⟨hl', hq⟩
        | goto l => exact ⟨hl', hq⟩
        | ret => exact ⟨hl', hq⟩
        | panic ch => exact ⟨hl', hq⟩
        | outgrown => exact ⟨hl', hq⟩
    | region id ops b =>
      refine ⟨fun hr t hl e => ?_, fun _ h => by cases h⟩
      subst e
      cases b with
      | false =>
        simp only [codeG, Bool.and_eq_true, List.all_eq_true] at hr
        simp only at h
        exact AW.region (gops_sound hG (fun st S tr h => hQ .normal st S tr h) _ _ _ _ _ (fun o ho => ⟨hr.1 o ho, hr.2 o ho⟩) hl (fun q hq => by simp at hq) h)
      | true =>
        simp only at h
        simp only [codeG, Bool.and_eq_true, List.all_eq_true] at hr
        exact AW.draw hm hr.2.2.1 hr.2.2.2 (gD_sound hG (fun st S tr h => hQ .normal st S tr h) _ _ _ _ _ _ _ _ _ (fun o ho => ⟨hr.2.1 o ho, hr.1 o ho⟩) hl (fun q hq => by simp at hq) (fun q hq => by simp at hq) (fun q hq => by simp at hq) h)
    | loop c =>
      have key : codeG P n c = true → ∀ t, t.length = n → lk t = st → AWl P c (QL n Q) t S := by
        intro hr t hl e
        simp only at h
        split at h
        · refine AWl.round ((ih _ _ _ _ _ _ (fun e st S => match e with
            | .normal => ∃ tr, gC P T m n (.loop c) st S tr K
            | e => Q e st S) ?_ h hr t hl e).mono ?_)
          · intro e st S tr h
            cases e with
            | normal => exact ⟨tr, h⟩
            | _ => exact hQ _ _ _ _ h
          · rintro e t' S' ⟨hl', hq⟩
            cases e with
            | normal => obtain ⟨tr', hq⟩ := hq; exact (gC_sound2 hm hT m n _ _ _ _ _ Q hQ hq).2 c rfl hr t' hl' rfl
            | exit id => exact ⟨hl', hq⟩
            | goto l => exact ⟨hl', hq⟩
            | ret => exact ⟨hl', hq⟩
            | panic ch => exact ⟨hl', hq⟩
            | outgrown => exact ⟨hl', hq⟩
        · obtain ⟨h1, h2⟩ := h
          subst e
          refine (h1.out hm hr t hl (facts_keys _ _)).mono ?_
          rintro e' t' S' ⟨hl', a, ha, hac, rfl, hf, hS⟩
          refine ⟨hl', ?_⟩
          obtain ⟨k, hk⟩ := galts_use h2 a ha
          replace hk := hk hac
          split at hk
          · rename_i S1 hS1
            have := hk (lk t')
            rw [upds_of hf] at this
            rw [hS _ hS1]
            exact hQ _ _ _ _ this
          · have := hk (lk t') S'
            rw [upds_of hf] at this
            exact hQ _ _ _ _ this
        · cases h
        · exact h.elim
      refine ⟨fun hr t hl e => AW.loop (key hr t hl e), fun d hd => by cases hd; exact key⟩
    | rangeFunc f ps x c =>
      refine ⟨fun hr t hl e => ?_, fun _ h => by cases h⟩
      simp only at h
      split at h
      · obtain ⟨h1, h2⟩ := h
        subst e
        refine (h1.out hm hr t hl (facts_keys _ _)).mono ?_
        rintro e' t' S' ⟨rfl, a, ha, hac, rfl, hf, hS⟩
        refine ⟨hl, ?_⟩
        obtain ⟨k, hk⟩ := galtr_use h2 a ha
        replace hk := hk hac
        split at hk
        · rename_i S1 hS1
          rw [hS _ hS1]
          exact hQ _ _ _ _ hk
        · exact hQ _ _ _ _ (hk S')
      · cases h
      · exact h.elim
    | scope c => exact h.elim
    | goto l => exact h.elim
    | refuse w => exact h.elim

end
end Go.Proofs.Ytfjeopaaplnoaaa.Av
