/-
  THE GUIDED WALK (2): regions, code.
-/
import Derived.Test.YtfjeopaaplnoaaaAvY
namespace Go.Proofs.Ytfjeopaaplnoaaa.Av
open Go Go.RowKit
set_option linter.unusedSimpArgs false
set_option linter.unusedVariables false

/-! ### What is known of tests within a region -/

abbrev Kn := List (Nat × Bool)
def KnOk (st : St) (kn : Kn) : Prop := ∀ q ∈ kn, st q.1 = .sc (.bool q.2)
def knGet : Kn → Nat → Option Bool
  | [], _ => none
  | (s, b) :: kn, i => match Nat.beq s i with
    | true => some b
    | false => knGet kn i
def knPut : Kn → Option Tmp → Kn
  | [], _ => []
  | q :: kn, none => q :: kn
  | (s, b) :: kn, some d => match Nat.beq s d with
    | true => knPut kn (some d)
    | false => (s, b) :: knPut kn (some d)

theorem knGet_ok {st : St} : ∀ {kn : Kn} {s : Nat} {b : Bool}, KnOk st kn → knGet kn s = some b → st s = .sc (.bool b)
  | (s', b') :: kn, s, b, hk, h => by
    unfold knGet at h
    split at h
    · rename_i e
      have e := Nat.eq_of_beq_eq_true e
      simp only [Option.some.injEq] at h
      subst e; subst h
      exact hk _ (List.mem_cons_self ..)
    · exact knGet_ok (fun q hq => hk q (List.mem_cons_of_mem _ hq)) h

theorem knPut_mem {d : Option Tmp} : ∀ {kn : Kn} {q : Nat × Bool}, q ∈ knPut kn d → q ∈ kn ∧ (∀ x, d = some x → q.1 ≠ x)
  | [], q, h => by simp [knPut] at h
  | a :: kn, q, h => by
    cases d with
    | none => exact ⟨h, fun x e => by cases e⟩
    | some d =>
      obtain ⟨s, b⟩ := a
      unfold knPut at h
      split at h
      · obtain ⟨h1, h2⟩ := knPut_mem h
        exact ⟨List.mem_cons_of_mem _ h1, h2⟩
      · rename_i e
        rcases List.mem_cons.1 h with rfl | h
        · refine ⟨List.mem_cons_self .., fun x hx => ?_⟩
          cases hx
          intro hsd
          have hsd : s = d := hsd
          subst hsd
          have : Nat.beq s s = true := by simp
          rw [this] at e; cases e
        · obtain ⟨h1, h2⟩ := knPut_mem h
          exact ⟨List.mem_cons_of_mem _ h1, h2⟩

theorem KnOk.put {st : St} {kn : Kn} (h : KnOk st kn) (d : Option Tmp) (v : AV) : KnOk (putF st d v) (knPut kn d) := by
  intro q hq
  obtain ⟨h1, h2⟩ := knPut_mem hq
  cases d with
  | none => exact h q h1
  | some d =>
    simp only [putF, upd_app]
    rw [if_neg (h2 d rfl)]
    exact h q h1

def ggrd (ops : Array Oper) (st : St) (kn : Kn) (o : Oper) (tr : Tr) (A B : Kn → Tr → Prop) : Prop :=
  match o.guard with
  | none => A kn tr
  | some (j, w) => match (ops[j]?).bind (·.dst) with
    | some s => match knGet kn s with
      | some b => match b, w with
        | true, true => A kn tr
        | false, false => A kn tr
        | _, _ => B kn tr
      | none => match st s with
        | .sc (.bool b) => match w with
          | true => gtest b tr (A ((s, true) :: kn)) (B ((s, false) :: kn))
          | false => gtest b tr (B ((s, true) :: kn)) (A ((s, false) :: kn))
        | _ => B kn tr
    | none => B kn tr

theorem KnOk.cons {st : St} {kn : Kn} {s : Nat} {b : Bool} (h : KnOk st kn) (hs : st s = .sc (.bool b)) : KnOk st ((s, b) :: kn) := by
  intro q hq
  rcases List.mem_cons.1 hq with rfl | hq
  · exact hs
  · exact h q hq

theorem ggrd_use {ops : Array Oper} {st : St} {kn : Kn} (hk : KnOk st kn) {o : Oper} {tr : Tr} {A B : Kn → Tr → Prop} (h : ggrd ops st kn o tr A B) :
    (awantedF ops st o = true → ∃ kn tr, KnOk st kn ∧ A kn tr) ∧ (awantedF ops st o = false → ∃ kn tr, KnOk st kn ∧ B kn tr) := by
  unfold ggrd at h
  unfold awantedF
  cases hg : o.guard with
  | none => rw [hg] at h; exact ⟨fun _ => ⟨_, _, hk, h⟩, fun e => by cases e⟩
  | some q =>
    obtain ⟨j, w⟩ := q
    rw [hg] at h
    simp only at h ⊢
    cases hs : (ops[j]?).bind (·.dst) with
    | none => rw [hs] at h; exact ⟨fun e => by simp at e, fun _ => ⟨_, _, hk, h⟩⟩
    | some s =>
      rw [hs] at h
      simp only [Option.bind_some] at h ⊢
      cases hkn : knGet kn s with
      | some b =>
        rw [hkn] at h
        simp only [knGet_ok hk hkn, avBool]
        cases b <;> cases w <;> simp only at h <;> first
          | exact ⟨fun _ => ⟨_, _, hk, h⟩, fun e => by simp at e⟩
          | exact ⟨fun e => by simp at e, fun _ => ⟨_, _, hk, h⟩⟩
      | none =>
        rw [hkn] at h
        simp only at h
        split at h
        · rename_i b hb
          simp only [hb, avBool]
          split at h
          · obtain ⟨h1, h2⟩ := gtest_use h
            refine ⟨fun e => ?_, fun e => ?_⟩
            · have e : b = true := by simpa using e
              subst e
              obtain ⟨tr, h1⟩ := h1 rfl
              exact ⟨_, tr, hk.cons hb, h1⟩
            · have e : b = false := by simpa using e
              subst e
              obtain ⟨tr, h2⟩ := h2 rfl
              exact ⟨_, tr, hk.cons hb, h2⟩
          · obtain ⟨h1, h2⟩ := gtest_use h
            refine ⟨fun e => ?_, fun e => ?_⟩
            · have e : b = false := by simpa using e
              subst e
              obtain ⟨tr, h2⟩ := h2 rfl
              exact ⟨_, tr, hk.cons hb, h2⟩
            · have e : b = true := by simpa using e
              subst e
              obtain ⟨tr, h1⟩ := h1 rfl
              exact ⟨_, tr, hk.cons hb, h1⟩
        · rename_i hb
          have : avBool (st s) = none := by
            unfold avBool
            split
            · rename_i b e; exact absurd e (hb b)
            · rfl
          rw [this]
          exact ⟨fun e => by simp at e, fun _ => ⟨_, _, hk, h⟩⟩

/-! ### Operations in order -/

abbrev KS := St → AS → Tr → Prop

def gops (P : Program) (G : GI) (ops : Array Oper) (K : KS) : List Oper → Kn → St → AS → Tr → Prop
  | [], _, st, S, tr => K st S tr
  | o :: l, kn, st, S, tr => ggrd ops st kn o tr
      (fun kn tr => gop P G o (evF st) S tr fun v S' tr => gops P G ops K l (knPut kn o.dst) (putF st o.dst v) S' tr)
      (fun kn tr => gops P G ops K l (knPut kn o.dst) (putF st o.dst (.tup [])) S tr)

section
variable {P : Program} {G : GI} {n : Nat}

theorem gops_sound (hG : GIok P G) {ops : Array Oper} {K : KS} {Q : St → AS → Prop} (hK : ∀ st S tr, K st S tr → Q st S) : ∀ (l : List Oper) (kn : Kn) (t : List AV) (S : AS) (tr : Tr), (∀ o ∈ l, okOp o = true ∧ dstOk n o = true) → t.length = n → KnOk (lk t) kn →
    gops P G ops K l kn (lk t) S tr → AWo P ops (fun t S => t.length = n ∧ Q (lk t) S) l t S
  | [], kn, t, S, tr, _, hl, _, h => ⟨hl, hK _ _ _ h⟩
  | o :: l, kn, t, S, tr, hd, hl, hk, h => by
    have hoo := (hd o (List.mem_cons_self ..)).1
    have hdo := (hd o (List.mem_cons_self ..)).2
    have hd' : ∀ o ∈ l, okOp o = true ∧ dstOk n o = true := fun o ho => hd o (List.mem_cons_of_mem _ ho)
    unfold gops at h
    unfold AWo
    rw [awanted_lk]
    obtain ⟨h1, h2⟩ := ggrd_use hk h
    split
    · rename_i hw
      obtain ⟨kn, tr, hkn, h1⟩ := h1 hw
      rw [evF_lk] at h1
      refine (gop_sound hG hoo h1).mono fun v S' ⟨tr, hv⟩ => ?_
      obtain ⟨q1, q2⟩ := lk_put hl hdo v
      exact gops_sound hG hK l _ _ _ tr hd' q2 (q1 ▸ hkn.put _ _) (q1 ▸ hv)
    · rename_i hw
      obtain ⟨kn, tr, hkn, h2⟩ := h2 (by simpa using hw)
      obtain ⟨q1, q2⟩ := lk_put hl hdo (.tup [])
      exact gops_sound hG hK l _ _ _ tr hd' q2 (q1 ▸ hkn.put _ _) (q1 ▸ h2)

/-! ### Operations that draw their order -/

structure Lo where
  k : Nat
  T : TypeId
  p : AV
  v : AV
  live : Bool

inductive Wr where
  | no
  | box (b : Nat)
  | any

def wrOf (o : Oper) (e : Operand → AV) : Wr :=
  match o.op with
  | .store _ x _ => match e x with
    | .ptr b _ => .box b
    | _ => .any
  | .box _ _ => .no
  | .call { callee := .builtin .append, .. } => .no
  | _ => .any

def loSkip (w : Wr) (q : Lo) : Bool :=
  match q.live with
  | false => false
  | true => match w with
    | .no => true
    | .any => false
    | .box b => match q.p with
      | .ptr b' _ => !Nat.beq b b'
      | .el _ _ => true
      | _ => false

def glate (P : Program) (ms : List Nat) (k : Nat) (w : Wr) (S : AS) : List Lo → List Lo → (List Lo → Prop) → Prop
  | [], acc, R => R acc
  | q :: l, acc, R => match loSkip w q with
    | true => glate P ms k w S l (q :: acc) R
    | false => match (ms.getD k 0).testBit q.k with
      | true => glate P ms k w S l ({ q with live := false } :: acc) R
      | false => aload P q.T S q.p = some q.v ∧ glate P ms k w S l ({ q with live := true } :: acc) R

def addLo (o : Oper) (k : Nat) (e : Operand → AV) (v : AV) (late : List Lo) : List Lo :=
  match o.op with
  | .load T x => ⟨k, T, e x, v, true⟩ :: late
  | _ => late

def noGI : GI := fun _ _ _ _ _ => False
theorem noGI_ok : GIok P noGI := fun _ _ _ _ _ h => h.elim

def gdet (P : Program) (o : Oper) (e : Operand → AV) (S : AS) (tr : Tr) (R : AV → Tr → Prop) : Prop :=
  match o.op with
  | .call { callee := .value f, args := args, argTypes := _ } => match e f with
    | .clo (.func g) fs cs => match tr with
      | .v x k => DCall P g (fs ++ args.toList.map e ++ cs) x ∧ R x k
      | .q => AskC g (fs ++ args.toList.map e ++ cs) S (fun v _ tr => R v tr) (fun _ => False)
      | _ => False
    | _ => False
  | _ => gop P noGI o e S tr (fun v _ tr => R v tr)

def gpush (S : AS) (pa : List (List AV)) : AS := match pa with
  | [] => S
  | _ :: _ => S.pushes pa
theorem gpush_eq (S : AS) (pa : List (List AV)) : gpush S pa = S.pushes pa := by
  cases pa with
  | nil => simp [gpush, AS.pushes]
  | cons a l => rfl

def gD (P : Program) (G : GI) (ops : Array Oper) (ms : List Nat) (K : KS) : Nat → List Oper → List Lo → List (List AV) → Kn → St → AS → Tr → Prop
  | _, [], _, pa, _, st, S, tr => K st (gpush S pa) tr
  | k, o :: l, late, pa, kn, st, S, tr =>
    match isA o with
    | true => match o.op with
      | .alloc T => match azero P T with
        | some cs => gD P G ops ms K (k + 1) l late (pa ++ [cs]) (knPut kn o.dst) (putF st o.dst (.ptr (S.box.length + pa.length) 0)) S tr
        | none => False
      | _ => False
    | false => match ixD o with
      | true => ggrd ops st kn o tr
          (fun kn tr => gop P G o (evF st) (gpush S pa) tr fun v S' tr => glate P ms k (wrOf o (evF st)) S' late [] fun late => gD P G ops ms K (k + 1) l late [] (knPut kn o.dst) (putF st o.dst v) S' tr)
          (fun kn tr => glate P ms k .no (gpush S pa) late [] fun late => gD P G ops ms K (k + 1) l late [] (knPut kn o.dst) (putF st o.dst (.tup [])) (gpush S pa) tr)
      | false => ggrd ops st kn o tr
          (fun kn tr => gdet P o (evF st) S tr fun v tr => gD P G ops ms K (k + 1) l (addLo o k (evF st) v late) pa (knPut kn o.dst) (putF st o.dst v) S tr)
          (fun kn tr => gD P G ops ms K (k + 1) l late pa (knPut kn o.dst) (putF st o.dst (.tup [])) S tr)

/-- What has been loaded and not been written since. -/
def LoOk (P : Program) (late : List Lo) (S : AS) : Prop := ∀ q ∈ late, q.live = true → aload P q.T S q.p = some q.v

theorem aload_pushes {T : TypeId} {S : AS} {p v : AV} (pa : List (List AV)) (h : aload P T S p = some v) : aload P T (S.pushes pa) p = some v := by
  unfold aload at h ⊢
  split at h
  · rename_i b o
    split at h
    · rename_i g n cs e1 e2
      simp only [AS.pushes, List.getElem?_append_left (List.getElem?_eq_some_iff.1 e2).1, e1, e2, h]
    · cases h
  · exact h
  · cases h

theorem LoOk.pushes {late : List Lo} {S : AS} (h : LoOk P late S) (pa : List (List AV)) : LoOk P late (S.pushes pa) := fun q hq hl => aload_pushes pa (h q hq hl)

/-- What an operation leaves. -/
def Keeps (P : Program) (w : Wr) (S S' : AS) : Prop := ∀ T p v, aload P T S p = some v → (match w with
  | .no => True
  | .any => False
  | .box b => match p with
    | .ptr b' _ => Nat.beq b b' = false
    | .el _ _ => True
    | _ => False) → aload P T S' p = some v

theorem keeps_box {S S' : AS} (h : ∀ (b : Nat) (cs : List AV), S.box[b]? = some cs → S'.box[b]? = some cs) : Keeps P .no S S' := by
  intro T p v hl _
  unfold aload at hl ⊢
  split at hl
  · split at hl
    · rename_i g n cs e1 e2
      simp only [e1, h _ _ e2, hl]
    · cases hl
  · exact hl
  · cases hl

theorem gop_keeps {o : Oper} {e : Operand → AV} {S : AS} {tr : Tr} {Kp : KO} (h : gop P G o e S tr Kp) : gop P G o e S tr (fun v S' tr => Kp v S' tr ∧ Keeps P (wrOf o e) S S') := by
  cases ho : o.op with
  | store T x y =>
    simp only [gop, ho] at h ⊢
    split at h
    · rename_i S' e1
      refine ⟨h, ?_⟩
      unfold wrOf
      simp only [ho]
      unfold astore at e1
      split at e1
      · rename_i b f hx
        simp only [hx]
        split at e1
        · rename_i n cs h1 h2
          split at e1
          · simp only [Option.some.injEq] at e1
            subst e1
            intro T p v hl hw
            unfold aload at hl ⊢
            split at hl
            · rename_i b' o'
              simp only at hw
              have hne : b ≠ b' := fun e => by subst e; simp at hw
              simp only [AS.setBox, List.getElem?_set_ne hne]
              exact hl
            · exact hl
            · cases hl
          · cases e1
        · cases e1
      · cases e1
    · exact h.elim
  | box T x =>
    simp only [gop, ho] at h ⊢
    unfold gif at h ⊢
    split at h
    · refine ⟨h, ?_⟩
      unfold wrOf
      simp only [ho]
      exact keeps_box fun b cs hb => by simp only [AS.push]; rw [List.getElem?_append_left (List.getElem?_eq_some_iff.1 hb).1]; exact hb
    · exact h.elim
  | call c =>
    obtain ⟨callee, args, Ts⟩ := c
    have hany : wrOf o e = .any → gop P G o e S tr (fun v S' tr => Kp v S' tr ∧ Keeps P (wrOf o e) S S') := by
      intro hw
      rw [hw]
      have : ∀ (v : AV) S' tr, Kp v S' tr → (Kp v S' tr ∧ Keeps P .any S S') := fun v S' tr h => ⟨h, fun _ _ _ _ hh => hh.elim⟩
      have e1 : Kp = (fun v S' tr => Kp v S' tr ∧ Keeps P .any S S') := by
        funext v S' tr
        exact propext ⟨this v S' tr, fun h => h.1⟩
      rw [← e1]; exact h
    cases callee with
    | value f => exact hany (by unfold wrOf; simp only [ho])
    | invoke r m => exact hany (by unfold wrOf; simp only [ho])
    | builtin b =>
      cases b with
      | append =>
        simp only [gop, ho] at h ⊢
        have hw : wrOf o e = .no := by unfold wrOf; simp only [ho]
        rw [hw]
        have kk : ∀ (S' : AS), S'.box = S.box → Keeps P .no S S' := fun S' hb => keeps_box fun b cs h => by rw [hb]; exact h
        unfold gbuiltin at h ⊢
        split at h
        case h_1 hh _ _ => cases hh
        case h_2 hh _ => cases hh
        case h_3 hh _ => cases hh
        case h_4 x y T T' e1 e2 e3 =>
          unfold gif at h ⊢
          split at h
          · unfold gappend at h ⊢
            split at h
            · exact h.elim
            · split at h
              · exact h.elim
              · rename_i ee st bytes ha _ ys hy
                have fin : ∀ (xs : List AV) (tok : Option Nat), gfin (e x) S ee st bytes ys tr Kp xs tok → gfin (e x) S ee st bytes ys tr (fun v S' tr => Kp v S' tr ∧ Keeps P .no S S') xs tok := by
                  intro xs tok hf
                  have k1 : Keeps P .no S (appS S ((xs.length + ys.length) * st) tok) := kk _ (by cases tok <;> rfl)
                  refine ⟨hf.1, ?_⟩
                  replace hf := hf.2
                  cases tr with
                  | t k => exact ⟨hf.1, hf.2, k1⟩
                  | f k => exact ⟨hf.1, hf.2, kk _ rfl⟩
                  | r k => cases ys with
                    | nil => exact ⟨hf, kk _ rfl⟩
                    | cons a l => exact ⟨hf, k1⟩
                  | q => cases hf
                  | _ => exact hf.elim
                split at h
                · exact fin _ _ h
                · unfold gif at h ⊢
                  split at h
                  · exact fin _ _ h
                  · exact h.elim
                · unfold gif at h ⊢
                  split at h
                  · exact ⟨h.1, fin _ _ h.2⟩
                  · exact h.elim
                · exact h.elim
          · exact h.elim
        case h_5 => exact h.elim
      | _ => exact hany (by unfold wrOf; simp only [ho])
  | _ =>
    have hw : wrOf o e = .any := by unfold wrOf; simp only [ho]
    rw [hw]
    have : ∀ (v : AV) S' tr, Kp v S' tr → (Kp v S' tr ∧ Keeps P .any S S') := fun v S' tr h => ⟨h, fun _ _ _ _ hh => hh.elim⟩
    have e1 : Kp = (fun v S' tr => Kp v S' tr ∧ Keeps P .any S S') := by
      funext v S' tr
      exact propext ⟨this v S' tr, fun h => h.1⟩
    rw [← e1]; exact h

end
end Go.Proofs.Ytfjeopaaplnoaaa.Av
