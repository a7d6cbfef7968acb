/-
  THE ABSTRACT WALK: contracts of functions whose arguments and results are closed.
-/
import Derived.Test.YtfjeopaaplnoaaaAvV
namespace Go.Proofs.Ytfjeopaaplnoaaa.Av
open Go Go.RowKit
set_option linter.unusedSimpArgs false
set_option linter.unusedVariables false

abbrev int (n : Int) : AV := .sc (.int .i64 n)
abbrev bool (b : Bool) : AV := .sc (.bool b)


/-- A function's contract from its body, walked from the empty state. -/
theorem DCall.fn {P : Program} (hm : P.follows .mixedOrders = true) {f n : FuncId} {fn : Func} {c : Code} {rs : Array ResultVar} {args : List AV} {v : AV} (hf : P.funcs[f]? = some fn) (hb : fn.body = some c) (hn : fn.ntmps = n) (hr : fn.results = rs) (hc : callable P f = true) (hok : codeOk P c = true)
    (ha : closedL args = true) (hv : closedB v = true) (h : awp P c (Out fun t' S2 => ∃ v2, ares P t' S2 rs.toList = some v2 ∧ VLe v2 v) (args ++ List.replicate (n - args.length) (.tup [])) ⟨[], [], []⟩) : DCall P f args v := by
  subst hn; subst hr
  refine ACall.frame (ACall.of_body_all hf hb hc ((awp_sound hm c hok h).mono ?_)) (closedL_wf _ ha) (closedB_wf _ hv)
  exact Out.imp (fun t S ⟨v2, h1, h2⟩ => ⟨v2, v, h1, h2, rfl⟩)

theorem ite_scb (b x y : Bool) : (if b = true then AV.sc (.bool x) else AV.sc (.bool y)) = AV.sc (.bool (if b = true then x else y)) := by cases b <;> rfl
theorem ite_sci (b : Bool) (k : IntKind) (x y : Int) : (if b = true then AV.sc (.int k x) else AV.sc (.int k y)) = AV.sc (.int k (if b = true then x else y)) := by cases b <;> rfl
theorem beq_some_true (b : Bool) : ((some b == some true) = true) = (b = true) := by cases b <;> simp
theorem beq_some_false (b : Bool) : ((some b == some false) = true) = (b = false) := by cases b <;> simp

/-- The walk of a call. -/
theorem ACall.by {P : Program} {f : FuncId} {args : List AV} {S : AS} {v : AV} {Kp : AV → AS → Prop} (h : DCall P f args v) (hk : Kp v S) : ACall P f args S Kp := h.use hk

/-- A loop that counts: 'T i' holds at the head of the round i. -/
theorem AWl.count {P : Program} (hm : P.follows .mixedOrders = true) {c : Code} (hok : codeOk P c = true) {Q : Exit → List AV → AS → Prop} (n : Nat) (T : Nat → List AV → AS → Prop)
    (step : ∀ i t S, i < n → T i t S → awp P c (thenQ (T (i + 1)) Q) t S) (fin : ∀ t S, T n t S → awp P c (thenQ (fun _ _ => False) Q) t S) : ∀ (k i : Nat) (t : List AV) (S : AS), i + k = n → T i t S → AWl P c Q t S
  | 0, i, t, S, hk, h => by
    have : i = n := by omega
    subst this
    refine AWl.round ((awp_sound hm c hok (fin t S h)).mono ?_)
    intro e t' S' hq
    cases e <;> first | exact hq.elim | exact hq
  | k + 1, i, t, S, hk, h => by
    refine AWl.round ((awp_sound hm c hok (step i t S (by omega) h)).mono ?_)
    intro e t' S' hq
    cases e <;> first | exact AWl.count hm hok n T step fin k (i + 1) t' S' (by omega) hq | exact hq

theorem AWl.count0 {P : Program} (hm : P.follows .mixedOrders = true) {c : Code} {Q : Exit → List AV → AS → Prop} {t : List AV} {S : AS} (n : Nat) (T : Nat → List AV → AS → Prop) (hok : codeOk P c = true) (h0 : T 0 t S)
    (fin : ∀ t S, T n t S → awp P c (thenQ (fun _ _ => False) Q) t S) (step : ∀ i t S, i < n → T i t S → awp P c (thenQ (T (i + 1)) Q) t S) : AWl P c Q t S :=
  AWl.count hm hok n T step fin n 0 t S (by omega) h0

theorem w64 {x : Int} (h1 : -9223372036854775808 ≤ x) (h2 : x ≤ 9223372036854775807) : IntKind.i64.wrap x = x := by
  simp [IntKind.wrap, IntKind.bits, IntKind.signed]; omega

theorem closedL_ints (l : List Int) : closedL (l.map int) = true := by
  induction l with
  | nil => rfl
  | cons a l ih => simp [closedL, closedB, ih]

/-! ### Nothing but the name of what is to be shown -/
theorem valW.id {x : AV} {R : AV → Prop} (h : valW x R) : valW x R := h
theorem stW.id {S : AS} {R : AS → Prop} (h : stW S R) : stW S R := h
theorem ifH.id {c : Bool} {A B : Prop} (h : ifH c A B) : ifH c A B := h
theorem callG.id {P : Program} {g : FuncId} {args : List AV} {R : AV → Prop} (h : callG P g args R) : callG P g args R := h
theorem ACallH.id {P : Program} {g : FuncId} {args : List AV} {S : AS} {Kp : AV → AS → Prop} (h : ACallH P g args S Kp) : ACallH P g args S Kp := h
theorem someH.id {α : Type} {x : Option α} {R : α → Prop} (h : someH x R) : someH x R := h

end Go.Proofs.Ytfjeopaaplnoaaa.Av
