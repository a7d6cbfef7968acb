/-
  ABSTRACT VALUES: a relation between abstract values (slices as lists, boxes for variables, tokens for slices that may still be appended to) and the worlds of the model.
-/
import Derived.RangeFuncLeaves
import Derived.OrdersIn
import Derived.CallsIn
import Derived.Below
import Derived.WalkKit
namespace Go.Proofs.Ytfjeopaaplnoaaa.Av
open Go Go.RowKit
set_option linter.unusedSimpArgs false

/-- What is known of a slice's capacity: nothing; it is the length; it may be appended to (a token, and the elements' type). -/
inductive SK where
  | ro
  | ex
  | own (t : Nat) (e : TypeId)

inductive AV where
  | sc (v : Value)
  | sl (k : SK) (st : Nat) (xs : List AV)
  | el (cs : List AV) (o : Nat)
  | ptr (b o : Nat)
  | clo (fn : Fn) (first captured : List AV)
  | yld (l : Nat)
  | agg (cs : List AV)
  | tup (vs : List AV)

instance : Inhabited AV := ⟨.tup []⟩

/-- The cells of a value. -/
def AV.cells : AV → List AV
  | .agg cs => cs
  | v => [v]

def AV.single : AV → Bool
  | .agg _ | .tup _ => false
  | _ => true

def vflat : Value → Bool
  | .agg _ | .tuple _ => false
  | _ => true

/-- What the blocks of the world are to the abstract state. -/
structure KW where
  box : List Nat
  own : List (Nat × Nat × Nat × TypeId)
  lp : List Nat
  pub : Nat → List Value

def SKok (K : KW) (st n : Nat) (A : Addr) (cap : Nat) : SK → Prop
  | .ro => True
  | .ex => cap = n
  | .own t e => ∃ B en m, K.own[t]? = some (B, en, m, e) ∧ n * st ≤ en ∧ (n * st = en → A = ⟨B, 0, none⟩ ∧ m = cap * st ∧ cap ≤ maxLen)

inductive VR (K : KW) : AV → Value → Prop
  | sc {v : Value} (h : vflat v = true) : VR K (.sc v) v
  | sl {k : SK} {st : Nat} {xs : List AV} {A : Addr} {n cap : Nat} (rc : Nat → Nat → Value) (hs : A.spot = none) (hn : xs.length = n) (hc : n ≤ cap)
      (hl : ∀ x ∈ xs, x.cells.length = st)
      (h1 : ∀ (i : Nat) (x : AV) (j : Nat) (c : AV), xs[i]? = some x → x.cells[j]? = some c → (K.pub A.block)[A.off + i * st + j]? = some (rc i j))
      (hg : ∀ (i : Nat) (x : AV) (j : Nat) (c : AV), xs[i]? = some x → x.cells[j]? = some c → c.single = true)
      (h2 : ∀ (i : Nat) (x : AV) (j : Nat) (c : AV), xs[i]? = some x → x.cells[j]? = some c → VR K c (rc i j))
      (hk : SKok K st n A cap k) : VR K (.sl k st xs) (.slice (some A) n cap)
  | el {cs : List AV} {o B base : Nat} (rc : Nat → Value)
      (h1 : ∀ (j : Nat) (c : AV), cs[j]? = some c → (K.pub B)[base + j]? = some (rc j))
      (hg : ∀ (j : Nat) (c : AV), cs[j]? = some c → c.single = true)
      (h2 : ∀ (j : Nat) (c : AV), cs[j]? = some c → VR K c (rc j)) : VR K (.el cs o) (.pointer (some ⟨B, base + o, none⟩))
  | ptr {b o r : Nat} (h : K.box[b]? = some r) : VR K (.ptr b o) (.pointer (some ⟨r, o, none⟩))
  | clo {fn : Fn} {fs cs : List AV} {rfs rcs : Array Value} (hf : fs.length = rfs.size) (hc : cs.length = rcs.size)
      (h1 : ∀ (i : Nat) (c : AV) (r : Value), fs[i]? = some c → rfs[i]? = some r → VR K c r) (h2 : ∀ (i : Nat) (c : AV) (r : Value), cs[i]? = some c → rcs[i]? = some r → VR K c r) : VR K (.clo fn fs cs) (.func fn rfs rcs)
  | yld {l r : Nat} (h : K.lp[l]? = some r) : VR K (.yld l) (.func (.yield r) #[] #[])
  | agg {cs : List AV} {rs : Array Value} (hl : cs.length = rs.size) (hg : ∀ (i : Nat) (c : AV), cs[i]? = some c → c.single = true)
      (h : ∀ (i : Nat) (c : AV) (r : Value), cs[i]? = some c → rs[i]? = some r → VR K c r) : VR K (.agg cs) (.agg rs)
  | tup {cs : List AV} {rs : Array Value} (hl : cs.length = rs.size) (h : ∀ (i : Nat) (c : AV) (r : Value), cs[i]? = some c → rs[i]? = some r → VR K c r) : VR K (.tup cs) (.tuple rs)

/-- What is known persists: more blocks, more published cells. -/
structure KW.le (K K' : KW) : Prop where
  box : ∀ b r : Nat, K.box[b]? = some r → K'.box[b]? = some r
  own : ∀ (t B en m : Nat) (e : TypeId), K.own[t]? = some (B, en, m, e) → ∃ B' en' m' : Nat, K'.own[t]? = some (B', en', m', e) ∧ (en < en' ∨ (B' = B ∧ en' = en ∧ m' = m))
  lp : ∀ l r : Nat, K.lp[l]? = some r → K'.lp[l]? = some r
  pub : ∀ (B i : Nat) (v : Value), (K.pub B)[i]? = some v → (K'.pub B)[i]? = some v

theorem KW.le.refl (K : KW) : K.le K := ⟨fun _ _ h => h, fun _ _ _ _ _ h => ⟨_, _, _, h, .inr ⟨rfl, rfl, rfl⟩⟩, fun _ _ h => h, fun _ _ _ h => h⟩

theorem KW.le.trans {A B C : KW} (h : A.le B) (k : B.le C) : A.le C where
  box b r hb := k.box b r (h.box b r hb)
  own t B0 en m e ht := by
    obtain ⟨B1, e1, m1, h1, h2⟩ := h.own t B0 en m e ht
    obtain ⟨B2, e2, m2, k1, k2⟩ := k.own t B1 e1 m1 e h1
    refine ⟨B2, e2, m2, k1, ?_⟩
    rcases h2 with h2 | ⟨rfl, rfl, rfl⟩
    · rcases k2 with k2 | ⟨rfl, rfl, rfl⟩
      · exact .inl (by omega)
      · exact .inl h2
    · exact k2
  lp l r hl := k.lp l r (h.lp l r hl)
  pub B i v hv := k.pub B i v (h.pub B i v hv)

theorem SKok.mono {K K' : KW} {st n : Nat} {A : Addr} {cap : Nat} {k : SK} (h : SKok K st n A cap k) (hle : K.le K') : SKok K' st n A cap k := by
  cases k with
  | ro => trivial
  | ex => exact h
  | own t e =>
    obtain ⟨B, en, m, h1, h2, h3⟩ := h
    obtain ⟨B', en', m', k1, k2⟩ := hle.own t B en m e h1
    refine ⟨B', en', m', k1, ?_, ?_⟩
    · rcases k2 with k2 | ⟨rfl, rfl, rfl⟩ <;> omega
    · intro heq
      rcases k2 with k2 | ⟨rfl, rfl, rfl⟩
      · omega
      · exact h3 heq

theorem VR.mono {K K' : KW} {v : AV} {r : Value} (h : VR K v r) (hle : K.le K') : VR K' v r := by
  induction h with
  | sc h => exact .sc h
  | sl rc hs hn hc hl h1 hg _ hk ih => exact .sl rc hs hn hc hl (fun i x j c hx hc => hle.pub _ _ _ (h1 i x j c hx hc)) hg ih (hk.mono hle)
  | el rc h1 hg _ ih => exact .el rc (fun j c hc => hle.pub _ _ _ (h1 j c hc)) hg ih
  | ptr h => exact .ptr (hle.box _ _ h)
  | clo hf hc _ _ ih1 ih2 => exact .clo hf hc ih1 ih2
  | yld h => exact .yld (hle.lp _ _ h)
  | agg hl hg _ ih => exact .agg hl hg ih
  | tup hl _ ih => exact .tup hl ih

/-- Forget what is known of a slice's capacity. -/
theorem VR.ro {K : KW} {k : SK} {st : Nat} {xs : List AV} {r : Value} (h : VR K (.sl k st xs) r) : VR K (.sl .ro st xs) r := by
  cases h with
  | sl rc hs hn hc hl h1 hg h2 hk => exact .sl rc hs hn hc hl h1 hg h2 trivial

end Go.Proofs.Ytfjeopaaplnoaaa.Av
