/-
  THE ENGINE (3): ranges over functions.
-/
import Derived.Test.YtfjeopaaplnoaaaAvW
namespace Go.Proofs.Ytfjeopaaplnoaaa.Av
open Go Go.RowKit
set_option linter.unusedSimpArgs false
set_option linter.unusedVariables false

section
variable {P : Program} {n : Nat}

/-- The state may be taken to be sound. -/
theorem ACallH.wf {g : FuncId} {args : List AV} {S : AS} {Kp : AV → AS → Prop} (hc : callable P g = true) (h : WfS S → ACallH P g args S Kp) : ACallH P g args S Kp :=
  ⟨⟨hc, fun K w rs h1 h2 => ((h h2.wfS).out).2 K w rs h1 h2⟩⟩

/-- The record of a range over a function. -/
structure LpIs (n : Nat) (L : ALoop) (st : St) (ps : Array Tmp) (x c : Code) : Prop where
  ready : L.st = .ready
  params : L.params = ps
  assign : L.assign = x
  body : L.body = c
  t : lk L.t = st
  len : L.t.length = n

def rngM (Q : Exit → St → AS → Prop) (st : St) (S : AS) : LSt → Prop
  | .ready => Q .normal st S
  | .done .ret => Q .ret st S
  | .done (.exit id) => Q (.exit id) st S
  | _ => False
/-- Behind a range over a function. -/
structure RngQ (m : Nat) (Q : Exit → St → AS → Prop) (st : St) (S : AS) : Prop where
  out : ∃ L, S.lp[m]? = some L ∧ rngM Q st (S.setLp m { L with st := .over }) L.st

theorem RngQ.of {m : Nat} {Q : Exit → St → AS → Prop} {st : St} {S : AS} (L : ALoop) (h : S.lp[m]? = some L) (k : rngM Q st (S.setLp m { L with st := .over }) L.st) : RngQ m Q st S := ⟨L, h, k⟩

theorem AWrF.by {f : Operand} {ps : Array Tmp} {x c : Code} {Q : Exit → St → AS → Prop} {st : St} {S : AS} {g : FuncId} {fs cs : List AV} (hf : okConst f = true) (ef : evF st f = .clo (.func g) fs cs) (hc : callable P g = true)
    (h : ∀ L, LpIs n L st ps x c → WfS (S.pushLp L) → ACallH P g (fs ++ [.yld S.lp.length] ++ cs) (S.pushLp L) (fun _ S' => RngQ S.lp.length Q st S')) : AWrF P n f ps x c Q st S := by
  refine ⟨fun hm t hl ht => ?_⟩
  subst ht
  have key : ACallH P g (fs ++ [.yld S.lp.length] ++ cs) (S.pushLp ⟨.ready, t, ps, x, c⟩) (fun _ S' => RngQ S.lp.length Q (lk t) S') :=
    ACallH.wf hc fun hw => h ⟨.ready, t, ps, x, c⟩ ⟨rfl, rfl, rfl, rfl, rfl, hl⟩ hw
  refine AW.rangeFunc hf (by rw [← evF_lk]; exact ef) (key.out.mono fun v S' hq => ?_)
  obtain ⟨L, h1, h2⟩ := hq
  refine ⟨L, h1, ?_⟩
  revert h2
  cases L.st with
  | ready => intro h2; exact ⟨hl, h2⟩
  | busy => intro h2; exact h2.elim
  | over => intro h2; exact h2.elim
  | done d =>
    cases d with
    | ret => intro h2; exact AW.ret ⟨hl, h2⟩
    | exit id => intro h2; exact AW.exit ⟨hl, h2⟩
    | _ => intro h2; exact h2.elim

def rndF (l : Nat) (L : ALoop) (Kp : AV → AS → Prop) : Exit → St → AS → Prop
  | .normal, _, S => S.lp[l]? = some { L with st := .busy } ∧ stW (S.setLp l L) fun S => Kp (.sc (.bool true)) S
  | .ret, _, S => S.lp[l]? = some { L with st := .busy } ∧ stW (S.setLp l { L with st := .done .ret }) fun S => Kp (.sc (.bool false)) S
  | .exit id, _, S => S.lp[l]? = some { L with st := .busy } ∧ stW (S.setLp l { L with st := .done (.exit id) }) fun S => Kp (.sc (.bool false)) S
  | _, _, _ => False

def yldQ (P : Program) (n l : Nat) (L : ALoop) (c : Code) (Kp : AV → AS → Prop) : Exit → St → AS → Prop
  | .normal, st, S => S.lp[l]? = some L ∧ stW (S.setLp l { L with st := .busy }) fun S => RunC P n c (rndF l L Kp) st S
  | _, _, _ => False

def yldSt : List Tmp → List AV → St → St
  | p :: ps, a :: args, st => yldSt ps args (upd st p a)
  | _, _, st => st

theorem lk_yldT : ∀ (ps : List Tmp) (args : List AV) (t : List AV), (∀ p ∈ ps, p < t.length) →
    lk ((ps.zip args).foldl (fun t (q : Tmp × AV) => t.set q.1 q.2) t) = yldSt ps args (lk t) ∧ ((ps.zip args).foldl (fun t (q : Tmp × AV) => t.set q.1 q.2) t).length = t.length
  | [], args, t, _ => by simp [yldSt]
  | p :: ps, [], t, _ => by simp [yldSt]
  | p :: ps, a :: args, t, h => by
    simp only [List.zip_cons_cons, List.foldl_cons, yldSt]
    obtain ⟨h1, h2⟩ := lk_yldT ps args (t.set p a) (fun q hq => by rw [List.length_set]; exact h q (List.mem_cons_of_mem _ hq))
    rw [h1, lk_set a (h p (List.mem_cons_self ..)), h2]
    simp

theorem AYieldH.by (hm : P.follows .mixedOrders = true) {l : Nat} {L : ALoop} {st : St} {ps : Array Tmp} {x c : Code} {args : List AV} {S : AS} {Kp : AV → AS → Prop} (hL : LpIs n L st ps x c) (hl : S.lp[l]? = some L)
    (hox : codeR P x = true) (hnx : codeN n x = true) (hoc : codeR P c = true) (hnc : codeN n c = true) (hlen : args.length = ps.size) (hps : ps.toList.all (fun p => decide (p < n)) = true)
    (h : RunC P n x (yldQ P n l L c Kp) (yldSt ps.toList args st) S) : AYieldH P l args S Kp := by
  have hps' : ∀ p ∈ ps.toList, p < L.t.length := fun p hp => by rw [hL.len]; simpa using List.all_eq_true.1 hps p hp
  obtain ⟨e1, e2⟩ := lk_yldT ps.toList args L.t hps'
  refine ⟨⟨L, hl, by rw [hL.params]; exact hlen, ?_⟩⟩
  rw [hL.assign, hL.body, hL.params]
  refine (h.out hm hox hnx (yldT ps args L.t) (e2.trans hL.len) (e1.trans (by rw [hL.t]))).mono ?_
  rintro e t1 S1 ⟨hl1, hq⟩
  cases e with
  | normal =>
    obtain ⟨h1, h2⟩ := hq
    refine ⟨L, h1, hL.ready, (h2.out.out hm hoc hnc t1 hl1 rfl).mono ?_⟩
    rintro e t2 S2 ⟨hl2, hq⟩
    have hr : ({ ({ L with st := .busy } : ALoop) with st := .ready } : ALoop) = L := by
      have := hL.ready
      cases L
      simp only at this
      subst this
      rfl
    cases e with
    | normal => exact ⟨_, hq.1, by rw [hr]; exact hq.2.out⟩
    | ret => exact ⟨_, hq.1, hq.2.out⟩
    | exit id => exact ⟨_, hq.1, hq.2.out⟩
    | goto l => exact hq.elim
    | panic ch => exact hq.elim
    | outgrown => exact hq.elim
  | exit id => exact hq.elim
  | goto l => exact hq.elim
  | ret => exact hq.elim
  | panic ch => exact hq.elim
  | outgrown => exact hq.elim

end
end Go.Proofs.Ytfjeopaaplnoaaa.Av
