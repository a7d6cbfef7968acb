/-
  WHAT THE FUNCTIONS RETURN (3): lists of numbers, states and boxes; runs of the reference.
-/
import Derived.Test.YtfjeopaaplnoaaaG2
namespace Go.Proofs.Ytfjeopaaplnoaaa
open Go Go.RowKit Av
set_option maxRecDepth 100000
set_option maxHeartbeats 4000000
set_option linter.unusedSimpArgs false
set_option linter.unusedVariables false

abbrev sta (q : Int × Int) : AV := .agg [int q.1, int q.2]
abbrev bxa (q : Int × Int × Int × Int) : AV := .agg [int q.1, int q.2.1, int q.2.2.1, int q.2.2.2]
abbrev nil0 : AV := .sc (.slice none 0 0)
theorem closedL_map {α : Type} (f : α → AV) (l : List α) (h : ∀ x, closedB (f x) = true) : closedL (l.map f) = true := by
  induction l with
  | nil => rfl
  | cons a l ih => simp [closedL, h, ih]
theorem cl_sta (l : List (Int × Int)) : closedL (l.map sta) = true := closedL_map _ _ (fun _ => rfl)
theorem cl_bxa (l : List (Int × Int × Int × Int)) : closedL (l.map bxa) = true := closedL_map _ _ (fun _ => rfl)
theorem wrapN {n : Nat} (h : n ≤ 1000000000000) : IntKind.i64.wrap ((n : Int) + 1) = ((n + 1 : Nat) : Int) := by rw [w64 (by omega) (by omega)]; omega
theorem map_ne {α : Type} {f : α → AV} {l : List α} (h : l ≠ []) : List.map f l ≠ [] := by simpa using h
/-- The first index of which something holds. -/
def idxFrom {α : Type} (p : α → Bool) : Nat → List α → Int
  | _, [] => -1
  | i, a :: l => if p a then i else idxFrom p (i + 1) l
theorem idxFrom_neg {α : Type} {p : α → Bool} : ∀ {l : List α} {i : Nat}, idxFrom p i l = -1 ↔ l.any p = false
  | [], i => by simp [idxFrom]
  | a :: l, i => by
    unfold idxFrom
    split
    · rename_i h; simp [h] <;> omega
    · rename_i h; rw [idxFrom_neg]; simp [h]
theorem idxFrom_ge {α : Type} {p : α → Bool} : ∀ {l : List α} {i : Nat}, decide (0 ≤ idxFrom p i l) = l.any p
  | [], i => by simp [idxFrom]
  | a :: l, i => by
    unfold idxFrom
    split
    · rename_i h; simp [h]
    · rename_i h; rw [idxFrom_ge]; simp [h]

theorem c43 (l : List Int) (hB : l.length ≤ 1000000) : DCall Try.prog 43 [.sl .ro 1 (l.map int)] (.sl .ro 1 (l.map int)) := by
  by_cases h : l = []
  · subst h
    refine DCall.walk hm (T := []) (m := 3000) trivial k43 (by first | rfl | simp [closedL, closedB, closedL_ints, *]) (by first | rfl | simp [closedL, closedB, closedL_ints, *]) rfl (tr := .r <| .n) (Pf := (0 ≤ 140737488355328) ∧ (FinV (AV.sl SK.ex 1 []) (AV.sl SK.ro 1 []))) (by kernel_rfl) ⟨(by decide), (FinV.mk (VLe.sl (by rfl)))⟩
  · have h1 := map_ne (f := int) h
    refine DCall.walk hm (T := []) (m := 3000) trivial k43 (by first | rfl | simp [closedL, closedB, closedL_ints, *]) (by first | rfl | simp [closedL, closedB, closedL_ints, *]) rfl (tr := .t <| .n) (Pf := ((0 + List.length (List.map int l)) * 8 ≤ 140737488355328) ∧ (List.map int l ≠ []) ∧ (FinV (AV.sl (SK.own 0 3) 1 (List.map int l)) (AV.sl SK.ro 1 (List.map int l)))) (by kernel_rfl) ⟨(by (simp; omega)), h1, (FinV.mk (VLe.sl (by simp)))⟩
theorem c43n : DCall Try.prog 43 [nil0] (.sl .ro 1 []) := by
  refine DCall.walk hm (T := []) (m := 3000) trivial k43 (by first | rfl | simp [closedL, closedB, closedL_ints, *]) (by first | rfl | simp [closedL, closedB, closedL_ints, *]) rfl (tr := .r <| .n) (Pf := (0 ≤ 140737488355328) ∧ (FinV (AV.sl SK.ex 1 []) (AV.sl SK.ro 1 []))) (by kernel_rfl) ⟨(by decide), (FinV.mk (VLe.sl (by rfl)))⟩
theorem c32 (l : List (Int × Int)) (hB : l.length ≤ 1000000) : DCall Try.prog 32 [.sl .ro 2 (l.map sta)] (.sl .ro 2 (l.map sta)) := by
  have := cl_sta l
  by_cases h : l = []
  · subst h
    refine DCall.walk hm (T := []) (m := 3000) trivial k32 (by first | rfl | simp [closedL, closedB, closedL_ints, *]) (by first | rfl | simp [closedL, closedB, closedL_ints, *]) rfl (tr := .r <| .n) (Pf := (0 ≤ 140737488355328) ∧ (FinV (AV.sl SK.ex 2 []) (AV.sl SK.ro 2 []))) (by kernel_rfl) ⟨(by decide), (FinV.mk (VLe.sl (by rfl)))⟩
  · have h1 := map_ne (f := sta) h
    refine DCall.walk hm (T := []) (m := 3000) trivial k32 (by first | rfl | simp [closedL, closedB, closedL_ints, *]) (by first | rfl | simp [closedL, closedB, closedL_ints, *]) rfl (tr := .t <| .n) (Pf := ((0 + List.length (List.map sta l)) * 16 ≤ 140737488355328) ∧ (List.map sta l ≠ []) ∧ (FinV (AV.sl (SK.own 0 27) 2 (List.map sta l)) (AV.sl SK.ro 2 (List.map sta l)))) (by kernel_rfl) ⟨(by (simp; omega)), h1, (FinV.mk (VLe.sl (by simp)))⟩
theorem c32n : DCall Try.prog 32 [nil0] (.sl .ro 2 []) := by
  refine DCall.walk hm (T := []) (m := 3000) trivial k32 (by first | rfl | simp [closedL, closedB, closedL_ints, *]) (by first | rfl | simp [closedL, closedB, closedL_ints, *]) rfl (tr := .r <| .n) (Pf := (0 ≤ 140737488355328) ∧ (FinV (AV.sl SK.ex 2 []) (AV.sl SK.ro 2 []))) (by kernel_rfl) ⟨(by decide), (FinV.mk (VLe.sl (by rfl)))⟩
theorem c61 (l : List (Int × Int × Int × Int)) (hB : l.length ≤ 1000000) : DCall Try.prog 61 [.sl .ro 4 (l.map bxa)] (.sl .ro 4 (l.map bxa)) := by
  have := cl_bxa l
  by_cases h : l = []
  · subst h
    refine DCall.walk hm (T := []) (m := 3000) trivial k61 (by first | rfl | simp [closedL, closedB, closedL_ints, *]) (by first | rfl | simp [closedL, closedB, closedL_ints, *]) rfl (tr := .r <| .n) (Pf := (0 ≤ 140737488355328) ∧ (FinV (AV.sl SK.ex 4 []) (AV.sl SK.ro 4 []))) (by kernel_rfl) ⟨(by decide), (FinV.mk (VLe.sl (by rfl)))⟩
  · have h1 := map_ne (f := bxa) h
    refine DCall.walk hm (T := []) (m := 3000) trivial k61 (by first | rfl | simp [closedL, closedB, closedL_ints, *]) (by first | rfl | simp [closedL, closedB, closedL_ints, *]) rfl (tr := .t <| .n) (Pf := ((0 + List.length (List.map bxa l)) * 32 ≤ 140737488355328) ∧ (List.map bxa l ≠ []) ∧ (FinV (AV.sl (SK.own 0 45) 4 (List.map bxa l)) (AV.sl SK.ro 4 (List.map bxa l)))) (by kernel_rfl) ⟨(by (simp; omega)), h1, (FinV.mk (VLe.sl (by simp)))⟩
theorem c61n : DCall Try.prog 61 [nil0] (.sl .ro 4 []) := by
  refine DCall.walk hm (T := []) (m := 3000) trivial k61 (by first | rfl | simp [closedL, closedB, closedL_ints, *]) (by first | rfl | simp [closedL, closedB, closedL_ints, *]) rfl (tr := .r <| .n) (Pf := (0 ≤ 140737488355328) ∧ (FinV (AV.sl SK.ex 4 []) (AV.sl SK.ro 4 []))) (by kernel_rfl) ⟨(by decide), (FinV.mk (VLe.sl (by rfl)))⟩

def loadsE (l : List Int) : Int := firstL [un (decide ((l.length : Int) ≤ 200)) 8, un (!l.any (fun n => !wi n 0 1000)) 2]
theorem loadsE_le {l : List Int} (h : l.length ≤ 200) : loadsE l = un (!l.any (fun n => !wi n 0 1000)) 2 := by
  have : decide ((l.length : Int) ≤ 200) = true := by simp; omega
  rw [loadsE, this]
  simp [firstL, un]
theorem loadsE_gt {l : List Int} (h : ¬ l.length ≤ 200) : loadsE l = 8 := by
  have : decide ((l.length : Int) ≤ 200) = false := by simp; omega
  rw [loadsE, this]
  simp [firstL, un]
theorem c152 (n : Int) : DCall Try.prog 152 [int n] (bool (!wi n 0 1000)) := by
  refine DCall.walk hm (T := []) (m := 3000) trivial k152 (by first | rfl | simp [closedL, closedB, closedL_ints, *]) (by first | rfl | simp [closedL, closedB, closedL_ints, *]) rfl (tr := .v (Av.bool (wi n 0 1000)) <| .n) (Pf := (DCall Try.prog 139 [int n] (Av.bool (wi n 0 1000))) ∧ (FinV (Av.bool !wi n 0 1000) (Av.bool !wi n 0 1000))) (by kernel_rfl) ⟨(c139 _), (FinV.mk (VLe.of_eq (by rfl)))⟩
theorem l166 {k : SK} {S : AS} (l : List Int) (hB : l.length ≤ 1000000) : LoopC Try.prog 19 (loopOf Try.f166 0) [(0, .sl k 1 (l.map int)), (1, .clo (.func 152) [] []), (7, int ((l.map int).length : Nat)), (8, int 0)] S
    [⟨idxFrom (fun n => !wi n 0 1000) 0 l = -1, .exit 0, [], some S⟩, ⟨True, .ret, [(4, int (idxFrom (fun n => !wi n 0 1000) 0 l))], some S⟩] := by
  refine LoopC.st hm (T := []) trivial (D := Nat) (fun i => i ≤ l.length ∧ idxFrom (fun n => !wi n 0 1000) i (l.drop i) = idxFrom (fun n => !wi n 0 1000) 0 l) (fun i => l.length - i) (fun _ => S)
    (fun i => [(0, .sl k 1 (l.map int)), (1, .clo (.func 152) [] []), (7, int ((l.map int).length : Nat)), (8, int (i : Int))]) [0, 1, 7, 8] [4] 0 ⟨Nat.zero_le _, rfl⟩ rfl rfl ?_
  rintro Nx Dn i ⟨hi, hf⟩ hN ⟨hD1, hD2, _⟩ st
  by_cases hlt : i < l.length
  · have hg := idx (f := int) hlt
    have hw := wrapN (n := i) (by omega)
    rw [List.drop_eq_getElem_cons hlt, idxFrom] at hf
    by_cases h0 : wi l[i] 0 1000 = true
    · rw [if_neg (by simp [h0])] at hf
      refine ⟨3000, (.t <| .v (int l[i]) <| .v (Av.bool !wi l[i] 0 1000) <| .f <| .n), of_eq (B := (decide ((↑i : Int) < (↑(List.length (List.map int l)) : Int)) = true) ∧ ((0 : Int) ≤ (↑i : Int)) ∧ ((List.map int l)[Int.toNat (↑i : Int)]? = some (int l[i])) ∧ (DCall Try.prog 152 [int l[i]] (Av.bool !wi l[i] 0 1000)) ∧ ((!wi l[i] 0 1000) = false) ∧ (Nx S [(0, AV.sl k 1 (List.map int l)), (1, AV.clo (Fn.func 152) [] []), (7, int (↑(List.length (List.map int l)) : Int)), (8, int (IntKind.wrap IntKind.i64 ((↑i : Int) + 1)))])) (by kernel_rfl) ⟨(by simp [hlt]), (by omega), hg, (c152 _), (by simp [h0]), (by exact hw ▸ hN (i + 1) ⟨by omega, hf⟩ (by omega))⟩⟩
    · have h0' : wi l[i] 0 1000 = false := by simpa using h0
      rw [if_pos (by simp [h0'])] at hf
      refine ⟨3000, (.t <| .v (int l[i]) <| .v (Av.bool !wi l[i] 0 1000) <| .t <| .n), of_eq (B := (decide ((↑i : Int) < (↑(List.length (List.map int l)) : Int)) = true) ∧ ((0 : Int) ≤ (↑i : Int)) ∧ ((List.map int l)[Int.toNat (↑i : Int)]? = some (int l[i])) ∧ (DCall Try.prog 152 [int l[i]] (Av.bool !wi l[i] 0 1000)) ∧ ((!wi l[i] 0 1000) = true) ∧ (Dn Exit.ret S [(4, int (↑i : Int))])) (by kernel_rfl) ⟨(by simp [hlt]), (by omega), hg, (c152 _), (by simp [h0']), (by exact hD2 trivial _ _ (by simp [hf]) (by simp))⟩⟩
  · have : l.drop i = [] := List.drop_eq_nil_of_le (by omega)
    rw [this] at hf
    refine ⟨3000, (.f <| .n), of_eq (B := (decide ((↑i : Int) < (↑(List.length (List.map int l)) : Int)) = false) ∧ (Dn (Exit.exit 0) S [(4, putF (upds st [(0, AV.sl k 1 (List.map int l)), (1, AV.clo (Fn.func 152) [] []), (7, int (↑(List.length (List.map int l)) : Int)), (8, int (↑i : Int))]) (some 9) (Av.bool (decide ((↑i : Int) < (↑(List.length (List.map int l)) : Int)))) 4)])) (by kernel_rfl) ⟨(by simp [hlt]), (by exact hD1 hf.symm _ _ (by simp) (by simp))⟩⟩
theorem c166 (l : List Int) (hB : l.length ≤ 1000000) : DCall Try.prog 166 [.sl .ro 1 (l.map int), .clo (.func 152) [] []] (int (idxFrom (fun n => !wi n 0 1000) 0 l)) := by
  refine DCall.walk hm (T := []) (m := 3000) trivial k166 (by first | rfl | simp [closedL, closedB, closedL_ints, *]) (by first | rfl | simp [closedL, closedB, closedL_ints, *]) rfl (tr := .l [0, 1, 7, 8] ([Alt.mk (idxFrom (fun (n : Int) => !wi n 0 1000) 0 l = -1) (Exit.exit 0) [] (some (AS.mk [] [] [])), Alt.mk True Exit.ret [(4, int (idxFrom (fun (n : Int) => !wi n 0 1000) 0 l))] (some (AS.mk [] [] []))]) ((.n) :: [.n])) (Pf := (LoopC Try.prog 19 (loopOf Try.f166 0) [(0, AV.sl SK.ro 1 (List.map int l)), (1, AV.clo (Fn.func 152) [] []), (7, int (↑(List.length (List.map int l)) : Int)), (8, int 0)] (AS.mk [] [] []) [Alt.mk (idxFrom (fun (n : Int) => !wi n 0 1000) 0 l = -1) (Exit.exit 0) [] (some (AS.mk [] [] [])), Alt.mk True Exit.ret [(4, int (idxFrom (fun (n : Int) => !wi n 0 1000) 0 l))] (some (AS.mk [] [] []))]) ∧ ((idxFrom (fun (n : Int) => !wi n 0 1000) 0 l = -1) → ∀ j_0 : St, (FinV (int (-1)) (int (idxFrom (fun (n : Int) => !wi n 0 1000) 0 l)))) ∧ ((True) → ∀ j_1 : St, (FinV (int (idxFrom (fun (n : Int) => !wi n 0 1000) 0 l)) (int (idxFrom (fun (n : Int) => !wi n 0 1000) 0 l))))) (by kernel_rfl) ⟨(l166 l hB), fun h_0 j_0 => (FinV.mk (VLe.of_eq (by simp [*]))), fun h_1 j_1 => (FinV.mk (VLe.of_eq (by simp [*])))⟩
theorem c151 (l : List Int) (hB : l.length ≤ 1000000) : DCall Try.prog 151 [.sl .ro 1 (l.map int), .clo (.func 152) [] []] (bool (l.any (fun n => !wi n 0 1000))) := by
  refine DCall.walk hm (T := []) (m := 3000) trivial k151 (by first | rfl | simp [closedL, closedB, closedL_ints, *]) (by first | rfl | simp [closedL, closedB, closedL_ints, *]) rfl (tr := .v (int (idxFrom (fun (n : Int) => !wi n 0 1000) 0 l)) <| .n) (Pf := (DCall Try.prog 166 [AV.sl SK.ro 1 (List.map int l), AV.clo (Fn.func 152) [] []] (int (idxFrom (fun (n : Int) => !wi n 0 1000) 0 l))) ∧ (FinV (Av.bool (decide (0 ≤ idxFrom (fun (n : Int) => !wi n 0 1000) 0 l))) (Av.bool (List.any l fun (n : Int) => !wi n 0 1000)))) (by kernel_rfl) ⟨(c166 l hB), (FinV.mk (VLe.of_eq (by simp only [idxFrom_ge])))⟩
theorem c113 (l : List Int) (hB : l.length ≤ 1000000) : DCall Try.prog 113 [.sl .ro 1 (l.map int)] (int (loadsE l)) := by
  refine DCall.walk hm (T := []) (m := 3000) trivial k113 (by first | rfl | simp [closedL, closedB, closedL_ints, *]) (by first | rfl | simp [closedL, closedB, closedL_ints, *]) rfl (tr := .v (Av.bool (List.any l fun (n : Int) => !wi n 0 1000)) <| .v (int (un (decide ((↑(List.length (List.map int l)) : Int) ≤ 200)) 8)) <| .v (int (un (!List.any l fun (n : Int) => !wi n 0 1000) 2)) <| .v (int (firstL [un (decide ((↑(List.length (List.map int l)) : Int) ≤ 200)) 8, un (!List.any l fun (n : Int) => !wi n 0 1000) 2])) <| .n) (Pf := (DCall Try.prog 151 [AV.sl SK.ro 1 (List.map int l), AV.clo (Fn.func 152) [] []] (Av.bool (List.any l fun (n : Int) => !wi n 0 1000))) ∧ (DCall Try.prog 93 [Av.bool (decide ((↑(List.length (List.map int l)) : Int) ≤ 200)), int 8] (int (un (decide ((↑(List.length (List.map int l)) : Int) ≤ 200)) 8))) ∧ (DCall Try.prog 93 [Av.bool !List.any l fun (n : Int) => !wi n 0 1000, int 2] (int (un (!List.any l fun (n : Int) => !wi n 0 1000) 2))) ∧ (DCall Try.prog 87 [AV.sl SK.ex 1 (List.map int [un (decide ((↑(List.length (List.map int l)) : Int) ≤ 200)) 8, un (!List.any l fun (n : Int) => !wi n 0 1000) 2])] (int (firstL [un (decide ((↑(List.length (List.map int l)) : Int) ≤ 200)) 8, un (!List.any l fun (n : Int) => !wi n 0 1000) 2]))) ∧ (FinV (int (firstL [un (decide ((↑(List.length (List.map int l)) : Int) ≤ 200)) 8, un (!List.any l fun (n : Int) => !wi n 0 1000) 2])) (int (loadsE l)))) (by kernel_rfl) ⟨(c151 l hB), (c93 _ _), (c93 _ _), (c87 [_, _] (by simp)), (FinV.mk (VLe.of_eq (by simp [loadsE])))⟩
theorem l52 {k : SK} {S : AS} (l : List Int) (hB : l.length ≤ 200) : LoopC Try.prog 22 (loopOf Try.f52 0) [(0, .sl k 1 (l.map int)), (3, int 0)] S
    [⟨l.any (fun n => !wi n 0 1000) = false, .exit 0, [], some S⟩, ⟨l.any (fun n => !wi n 0 1000) = true, .ret, [(2, int 2)], some S⟩] := by
  refine LoopC.st hm (T := []) trivial (D := Nat) (fun i => i ≤ l.length ∧ (l.drop i).any (fun n => !wi n 0 1000) = l.any (fun n => !wi n 0 1000)) (fun i => l.length - i) (fun _ => S)
    (fun i => [(0, .sl k 1 (l.map int)), (3, int (i : Int))]) [0, 3] [2] 0 ⟨Nat.zero_le _, rfl⟩ rfl rfl ?_
  rintro Nx Dn i ⟨hi, hf⟩ hN ⟨hD1, hD2, _⟩ st
  by_cases hlt : i < l.length
  · have hg := idx (f := int) hlt
    have hw := wrapN (n := i) (by omega)
    rw [List.drop_eq_getElem_cons hlt, List.any_cons] at hf
    by_cases h0 : wi l[i] 0 1000 = true
    · have he : loadE l[i] = 0 := by simp [loadE, un, h0]
      rw [h0] at hf
      refine ⟨3000, (.t <| .v (int l[i]) <| .v (int (loadE l[i])) <| .f <| .n), of_eq (B := (decide ((↑i : Int) < (↑(List.length (List.map int l)) : Int)) = true) ∧ ((0 : Int) ≤ (↑i : Int)) ∧ ((List.map int l)[Int.toNat (↑i : Int)]? = some (int l[i])) ∧ (DCall Try.prog 21 [int l[i]] (int (loadE l[i]))) ∧ ((loadE l[i] != 0) = false) ∧ (Nx S [(0, AV.sl k 1 (List.map int l)), (3, int (IntKind.wrap IntKind.i64 ((↑i : Int) + 1)))])) (by kernel_rfl) ⟨(by simp [hlt]), (by omega), hg, (c21 _), (by simp [he]), (by exact hw ▸ hN (i + 1) ⟨by omega, by simpa using hf⟩ (by omega))⟩⟩
    · have h0' : wi l[i] 0 1000 = false := by simpa using h0
      have he : loadE l[i] = 2 := by simp [loadE, un, h0']
      rw [h0'] at hf
      refine ⟨3000, (.t <| .v (int l[i]) <| .v (int (loadE l[i])) <| .t <| .n), of_eq (B := (decide ((↑i : Int) < (↑(List.length (List.map int l)) : Int)) = true) ∧ ((0 : Int) ≤ (↑i : Int)) ∧ ((List.map int l)[Int.toNat (↑i : Int)]? = some (int l[i])) ∧ (DCall Try.prog 21 [int l[i]] (int (loadE l[i]))) ∧ ((loadE l[i] != 0) = true) ∧ (Dn Exit.ret S [(2, int (loadE l[i]))])) (by kernel_rfl) ⟨(by simp [hlt]), (by omega), hg, (c21 _), (by simp [he]), (by exact hD2 (by simpa using hf.symm) _ _ (by simp [he]) (by simp))⟩⟩
  · have : l.drop i = [] := List.drop_eq_nil_of_le (by omega)
    rw [this] at hf
    refine ⟨3000, (.f <| .n), of_eq (B := (decide ((↑i : Int) < (↑(List.length (List.map int l)) : Int)) = false) ∧ (Dn (Exit.exit 0) S [(2, putF (putF (putF (putF (upds st [(0, AV.sl k 1 (List.map int l)), (3, int (↑i : Int))]) (Oper.dst (Oper.mk (some 8) (Op.move (Operand.tmp 3)) 3 "ref.go:61" #[] none)) (evF (upds st [(0, AV.sl k 1 (List.map int l)), (3, int (↑i : Int))]) (Operand.tmp 3))) (Oper.dst (Oper.mk (some 9) (Op.move (Operand.tmp 0)) 55 "ref.go:61" #[] none)) (evF (putF (upds st [(0, AV.sl k 1 (List.map int l)), (3, int (↑i : Int))]) (Oper.dst (Oper.mk (some 8) (Op.move (Operand.tmp 3)) 3 "ref.go:61" #[] none)) (evF (upds st [(0, AV.sl k 1 (List.map int l)), (3, int (↑i : Int))]) (Operand.tmp 3))) (Operand.tmp 0))) (Oper.dst (Oper.mk (some 10) (Op.call (Call.mk (Callee.builtin Builtin.len) #[Operand.tmp 9] #[55])) 3 "ref.go:61" #[Edge.mk 1 Ground.data] none)) (AV.sc (Value.int IntKind.i64 (↑(List.length (List.map int l)) : Int)))) (some 11) (Av.bool (decide ((↑i : Int) < (↑(List.length (List.map int l)) : Int)))) 2)])) (by kernel_rfl) ⟨(by simp [hlt]), (by exact hD1 (by simpa using hf.symm) _ _ (by simp) (by simp))⟩⟩
theorem c52 (l : List Int) (hB : l.length ≤ 1000000) : DCall Try.prog 52 [.sl .ro 1 (l.map int)] (int (loadsE l)) := by
  by_cases h : l.length ≤ 200
  · rw [loadsE_le h]
    refine DCall.walk hm (T := []) (m := 3000) trivial k52 (by first | rfl | simp [closedL, closedB, closedL_ints, *]) (by first | rfl | simp [closedL, closedB, closedL_ints, *]) rfl (tr := .f <| .l [0, 3] ([Alt.mk ((List.any l fun (n : Int) => !wi n 0 1000) = false) (Exit.exit 0) [] (some (AS.mk [] [] [])), Alt.mk ((List.any l fun (n : Int) => !wi n 0 1000) = true) Exit.ret [(2, int 2)] (some (AS.mk [] [] []))]) ((.n) :: [.n])) (Pf := (decide (200 < (↑(List.length (List.map int l)) : Int)) = false) ∧ (LoopC Try.prog 22 (loopOf Try.f52 0) [(0, AV.sl SK.ro 1 (List.map int l)), (3, int 0)] (AS.mk [] [] []) [Alt.mk ((List.any l fun (n : Int) => !wi n 0 1000) = false) (Exit.exit 0) [] (some (AS.mk [] [] [])), Alt.mk ((List.any l fun (n : Int) => !wi n 0 1000) = true) Exit.ret [(2, int 2)] (some (AS.mk [] [] []))]) ∧ (((List.any l fun (n : Int) => !wi n 0 1000) = false) → ∀ j_0 : St, (FinV (int 0) (int (un (!List.any l fun (n : Int) => !wi n 0 1000) 2)))) ∧ (((List.any l fun (n : Int) => !wi n 0 1000) = true) → ∀ j_1 : St, (FinV (int 2) (int (un (!List.any l fun (n : Int) => !wi n 0 1000) 2))))) (by kernel_rfl) ⟨(by (simp; omega)), (l52 l h), fun h_0 j_0 => (FinV.mk (VLe.of_eq (by simp [un, *]))), fun h_1 j_1 => (FinV.mk (VLe.of_eq (by simp [un, *])))⟩
  · rw [loadsE_gt h]
    refine DCall.walk hm (T := []) (m := 3000) trivial k52 (by first | rfl | simp [closedL, closedB, closedL_ints, *]) (by first | rfl | simp [closedL, closedB, closedL_ints, *]) rfl (tr := .t <| .n) (Pf := (decide (200 < (↑(List.length (List.map int l)) : Int)) = true) ∧ (FinV (int 8) (int 8))) (by kernel_rfl) ⟨(by (simp; omega)), (FinV.mk (VLe.of_eq (by rfl)))⟩
theorem l53 {k k' : SK} {S : AS} (l l' : List (Int × Int)) (hB : l.length ≤ 1000000) (hl : l.length = l'.length) : LoopC Try.prog 26 (loopOf Try.f53 0) [(0, .sl k 2 (l.map sta)), (1, .sl k' 2 (l'.map sta)), (5, int 0)] S
    [⟨l = l', .exit 0, [], some S⟩, ⟨l ≠ l', .ret, [(4, bool false)], some S⟩] := by
  refine LoopC.st hm (T := []) trivial (D := Nat) (fun i => i ≤ l.length ∧ (l = l' ↔ l.drop i = l'.drop i)) (fun i => l.length - i) (fun _ => S)
    (fun i => [(0, .sl k 2 (l.map sta)), (1, .sl k' 2 (l'.map sta)), (5, int (i : Int))]) [0, 1, 5] [4] 0 ⟨Nat.zero_le _, by simp⟩ rfl rfl ?_
  rintro Nx Dn i ⟨hi, hf⟩ hN ⟨hD1, hD2, _⟩ st
  by_cases hlt : i < l.length
  · have hg := idx (f := sta) hlt
    have hg' := idx (f := sta) (l := l') (i := i) (by omega)
    have hw := wrapN (n := i) (by omega)
    rw [List.drop_eq_getElem_cons hlt, List.drop_eq_getElem_cons (by omega : i < l'.length)] at hf
    by_cases h0 : l[i] = l'[i]'(by omega)
    · have hf' : l = l' ↔ l.drop (i + 1) = l'.drop (i + 1) := hf.trans ⟨fun e => (List.cons.inj e).2, fun e => by rw [h0, e]⟩
      refine ⟨3000, (.t <| .v (sta l[i]) <| .v (sta l'[i]) <| .f <| .n), of_eq (B := (decide ((↑i : Int) < (↑(List.length (List.map sta l)) : Int)) = true) ∧ ((0 : Int) ≤ (↑i : Int)) ∧ ((List.map sta l)[Int.toNat (↑i : Int)]? = some (sta l[i])) ∧ ((0 : Int) ≤ (↑i : Int)) ∧ ((List.map sta l')[Int.toNat (↑i : Int)]? = some (sta l'[i])) ∧ ((!(Prod.fst l[i] == Prod.fst l'[i] && (Prod.snd l[i] == Prod.snd l'[i] && true))) = false) ∧ (Nx S [(0, AV.sl k 2 (List.map sta l)), (1, AV.sl k' 2 (List.map sta l')), (5, int (IntKind.wrap IntKind.i64 ((↑i : Int) + 1)))])) (by kernel_rfl) ⟨(by simp [hlt]), (by omega), hg, (by omega), hg', (by simp [h0]), (by exact hw ▸ hN (i + 1) ⟨by omega, hf'⟩ (by omega))⟩⟩
    · have hne : l ≠ l' := fun e => h0 (List.cons.inj (hf.1 e)).1
      have h1 : ((l[i].1 == (l'[i]'(by omega)).1) && ((l[i].2 == (l'[i]'(by omega)).2) && true)) = false := by
        rw [Bool.eq_false_iff]
        intro e
        simp at e
        exact h0 (Prod.ext e.1 e.2)
      refine ⟨3000, (.t <| .v (sta l[i]) <| .v (sta l'[i]) <| .t <| .n), of_eq (B := (decide ((↑i : Int) < (↑(List.length (List.map sta l)) : Int)) = true) ∧ ((0 : Int) ≤ (↑i : Int)) ∧ ((List.map sta l)[Int.toNat (↑i : Int)]? = some (sta l[i])) ∧ ((0 : Int) ≤ (↑i : Int)) ∧ ((List.map sta l')[Int.toNat (↑i : Int)]? = some (sta l'[i])) ∧ ((!(Prod.fst l[i] == Prod.fst l'[i] && (Prod.snd l[i] == Prod.snd l'[i] && true))) = true) ∧ (Dn Exit.ret S [(4, Av.bool false)])) (by kernel_rfl) ⟨(by simp [hlt]), (by omega), hg, (by omega), hg', (by simp only [h1, Bool.not_false]), (by exact hD2 hne _ _ (by simp) (by simp))⟩⟩
  · have e1 : l.drop i = [] := List.drop_eq_nil_of_le (by omega)
    have e2 : l'.drop i = [] := List.drop_eq_nil_of_le (by omega)
    rw [e1, e2] at hf
    refine ⟨3000, (.f <| .n), of_eq (B := (decide ((↑i : Int) < (↑(List.length (List.map sta l)) : Int)) = false) ∧ (Dn (Exit.exit 0) S [(4, putF (putF (putF (putF (upds st [(0, AV.sl k 2 (List.map sta l)), (1, AV.sl k' 2 (List.map sta l')), (5, int (↑i : Int))]) (Oper.dst (Oper.mk (some 11) (Op.move (Operand.tmp 5)) 3 "ref.go:460" #[] none)) (evF (upds st [(0, AV.sl k 2 (List.map sta l)), (1, AV.sl k' 2 (List.map sta l')), (5, int (↑i : Int))]) (Operand.tmp 5))) (Oper.dst (Oper.mk (some 12) (Op.move (Operand.tmp 0)) 58 "ref.go:460" #[] none)) (evF (putF (upds st [(0, AV.sl k 2 (List.map sta l)), (1, AV.sl k' 2 (List.map sta l')), (5, int (↑i : Int))]) (Oper.dst (Oper.mk (some 11) (Op.move (Operand.tmp 5)) 3 "ref.go:460" #[] none)) (evF (upds st [(0, AV.sl k 2 (List.map sta l)), (1, AV.sl k' 2 (List.map sta l')), (5, int (↑i : Int))]) (Operand.tmp 5))) (Operand.tmp 0))) (Oper.dst (Oper.mk (some 13) (Op.call (Call.mk (Callee.builtin Builtin.len) #[Operand.tmp 12] #[58])) 3 "ref.go:460" #[Edge.mk 1 Ground.data] none)) (AV.sc (Value.int IntKind.i64 (↑(List.length (List.map sta l)) : Int)))) (some 14) (Av.bool (decide ((↑i : Int) < (↑(List.length (List.map sta l)) : Int)))) 4)])) (by kernel_rfl) ⟨(by simp [hlt]), (by exact hD1 (hf.2 rfl) _ _ (by simp) (by simp))⟩⟩
theorem c53 (l l' : List (Int × Int)) (hB : l.length ≤ 1000000) : DCall Try.prog 53 [.sl .ro 2 (l.map sta), .sl .ro 2 (l'.map sta)] (bool (decide (l = l'))) := by
  have c1 : closedL (l.map sta) = true := closedL_map _ _ (fun _ => rfl)
  have c2 : closedL (l'.map sta) = true := closedL_map _ _ (fun _ => rfl)
  by_cases hl : l.length = l'.length
  · refine DCall.walk hm (T := []) (m := 3000) trivial k53 (by first | rfl | simp [closedL, closedB, closedL_ints, *]) (by first | rfl | simp [closedL, closedB, closedL_ints, *]) rfl (tr := .f <| .l [0, 1, 5] ([Alt.mk (l = l') (Exit.exit 0) [] (some (AS.mk [] [] [])), Alt.mk (l ≠ l') Exit.ret [(4, Av.bool false)] (some (AS.mk [] [] []))]) ((.n) :: [.n])) (Pf := (((↑(List.length (List.map sta l)) : Int) != (↑(List.length (List.map sta l')) : Int)) = false) ∧ (LoopC Try.prog 26 (loopOf Try.f53 0) [(0, AV.sl SK.ro 2 (List.map sta l)), (1, AV.sl SK.ro 2 (List.map sta l')), (5, int 0)] (AS.mk [] [] []) [Alt.mk (l = l') (Exit.exit 0) [] (some (AS.mk [] [] [])), Alt.mk (l ≠ l') Exit.ret [(4, Av.bool false)] (some (AS.mk [] [] []))]) ∧ ((l = l') → ∀ j_0 : St, (FinV (Av.bool true) (Av.bool (decide (l = l'))))) ∧ ((l ≠ l') → ∀ j_1 : St, (FinV (Av.bool false) (Av.bool (decide (l = l')))))) (by kernel_rfl) ⟨(by simp [hl]), (l53 l l' hB hl), fun h_0 j_0 => (FinV.mk (VLe.of_eq (by simp [*]))), fun h_1 j_1 => (FinV.mk (VLe.of_eq (by simp [*])))⟩
  · have hne : l ≠ l' := fun e => hl (by rw [e])
    refine DCall.walk hm (T := []) (m := 3000) trivial k53 (by first | rfl | simp [closedL, closedB, closedL_ints, *]) (by first | rfl | simp [closedL, closedB, closedL_ints, *]) rfl (tr := .t <| .n) (Pf := (((↑(List.length (List.map sta l)) : Int) != (↑(List.length (List.map sta l')) : Int)) = true) ∧ (FinV (Av.bool false) (Av.bool (decide (l = l'))))) (by kernel_rfl) ⟨(by (simp; omega)), (FinV.mk (VLe.of_eq (by simp [hne])))⟩
theorem c53n : DCall Try.prog 53 [nil0, nil0] (bool true) := by
  refine DCall.walk hm (T := []) (m := 3000) trivial k53 (by first | rfl | simp [closedL, closedB, closedL_ints, *]) (by first | rfl | simp [closedL, closedB, closedL_ints, *]) rfl (tr := .r <| .r <| .r <| .n) (Pf := (FinV (Av.bool true) (Av.bool true))) (by kernel_rfl) (FinV.mk (VLe.of_eq (by rfl)))
theorem l57 {k k' : SK} {S : AS} (l l' : List (Int × Int × Int × Int)) (hB : l.length ≤ 1000000) (hl : l.length = l'.length) : LoopC Try.prog 26 (loopOf Try.f57 0) [(0, .sl k 4 (l.map bxa)), (1, .sl k' 4 (l'.map bxa)), (5, int 0)] S
    [⟨l = l', .exit 0, [], some S⟩, ⟨l ≠ l', .ret, [(4, bool false)], some S⟩] := by
  refine LoopC.st hm (T := []) trivial (D := Nat) (fun i => i ≤ l.length ∧ (l = l' ↔ l.drop i = l'.drop i)) (fun i => l.length - i) (fun _ => S)
    (fun i => [(0, .sl k 4 (l.map bxa)), (1, .sl k' 4 (l'.map bxa)), (5, int (i : Int))]) [0, 1, 5] [4] 0 ⟨Nat.zero_le _, by simp⟩ rfl rfl ?_
  rintro Nx Dn i ⟨hi, hf⟩ hN ⟨hD1, hD2, _⟩ st
  by_cases hlt : i < l.length
  · have hg := idx (f := bxa) hlt
    have hg' := idx (f := bxa) (l := l') (i := i) (by omega)
    have hw := wrapN (n := i) (by omega)
    rw [List.drop_eq_getElem_cons hlt, List.drop_eq_getElem_cons (by omega : i < l'.length)] at hf
    by_cases h0 : l[i] = l'[i]'(by omega)
    · have hf' : l = l' ↔ l.drop (i + 1) = l'.drop (i + 1) := hf.trans ⟨fun e => (List.cons.inj e).2, fun e => by rw [h0, e]⟩
      refine ⟨3000, (.t <| .v (bxa l[i]) <| .v (bxa l'[i]) <| .f <| .n), of_eq (B := (decide ((↑i : Int) < (↑(List.length (List.map bxa l)) : Int)) = true) ∧ ((0 : Int) ≤ (↑i : Int)) ∧ ((List.map bxa l)[Int.toNat (↑i : Int)]? = some (bxa l[i])) ∧ ((0 : Int) ≤ (↑i : Int)) ∧ ((List.map bxa l')[Int.toNat (↑i : Int)]? = some (bxa l'[i])) ∧ ((!(Prod.fst l[i] == Prod.fst l'[i] && (Prod.fst (Prod.snd l[i]) == Prod.fst (Prod.snd l'[i]) && true) && (Prod.fst (Prod.snd (Prod.snd l[i])) == Prod.fst (Prod.snd (Prod.snd l'[i])) && (Prod.snd (Prod.snd (Prod.snd l[i])) == Prod.snd (Prod.snd (Prod.snd l'[i])) && true) && true))) = false) ∧ (Nx S [(0, AV.sl k 4 (List.map bxa l)), (1, AV.sl k' 4 (List.map bxa l')), (5, int (IntKind.wrap IntKind.i64 ((↑i : Int) + 1)))])) (by kernel_rfl) ⟨(by simp [hlt]), (by omega), hg, (by omega), hg', (by simp [h0]), (by exact hw ▸ hN (i + 1) ⟨by omega, hf'⟩ (by omega))⟩⟩
    · have hne : l ≠ l' := fun e => h0 (List.cons.inj (hf.1 e)).1
      have h1 : ((l[i].1 == (l'[i]'(by omega)).1) && ((l[i].2.1 == (l'[i]'(by omega)).2.1) && true) && (((l[i].2.2.1 == (l'[i]'(by omega)).2.2.1) && ((l[i].2.2.2 == (l'[i]'(by omega)).2.2.2) && true)) && true)) = false := by
        rw [Bool.eq_false_iff]
        intro e
        simp at e
        exact h0 (Prod.ext e.1.1 (Prod.ext e.1.2 (Prod.ext e.2.1 e.2.2)))
      refine ⟨3000, (.t <| .v (bxa l[i]) <| .v (bxa l'[i]) <| .t <| .n), of_eq (B := (decide ((↑i : Int) < (↑(List.length (List.map bxa l)) : Int)) = true) ∧ ((0 : Int) ≤ (↑i : Int)) ∧ ((List.map bxa l)[Int.toNat (↑i : Int)]? = some (bxa l[i])) ∧ ((0 : Int) ≤ (↑i : Int)) ∧ ((List.map bxa l')[Int.toNat (↑i : Int)]? = some (bxa l'[i])) ∧ ((!(Prod.fst l[i] == Prod.fst l'[i] && (Prod.fst (Prod.snd l[i]) == Prod.fst (Prod.snd l'[i]) && true) && (Prod.fst (Prod.snd (Prod.snd l[i])) == Prod.fst (Prod.snd (Prod.snd l'[i])) && (Prod.snd (Prod.snd (Prod.snd l[i])) == Prod.snd (Prod.snd (Prod.snd l'[i])) && true) && true))) = true) ∧ (Dn Exit.ret S [(4, Av.bool false)])) (by kernel_rfl) ⟨(by simp [hlt]), (by omega), hg, (by omega), hg', (by simp only [h1, Bool.not_false]), (by exact hD2 hne _ _ (by simp) (by simp))⟩⟩
  · have e1 : l.drop i = [] := List.drop_eq_nil_of_le (by omega)
    have e2 : l'.drop i = [] := List.drop_eq_nil_of_le (by omega)
    rw [e1, e2] at hf
    refine ⟨3000, (.f <| .n), of_eq (B := (decide ((↑i : Int) < (↑(List.length (List.map bxa l)) : Int)) = false) ∧ (Dn (Exit.exit 0) S [(4, putF (putF (putF (putF (upds st [(0, AV.sl k 4 (List.map bxa l)), (1, AV.sl k' 4 (List.map bxa l')), (5, int (↑i : Int))]) (Oper.dst (Oper.mk (some 11) (Op.move (Operand.tmp 5)) 3 "ref.go:471" #[] none)) (evF (upds st [(0, AV.sl k 4 (List.map bxa l)), (1, AV.sl k' 4 (List.map bxa l')), (5, int (↑i : Int))]) (Operand.tmp 5))) (Oper.dst (Oper.mk (some 12) (Op.move (Operand.tmp 0)) 61 "ref.go:471" #[] none)) (evF (putF (upds st [(0, AV.sl k 4 (List.map bxa l)), (1, AV.sl k' 4 (List.map bxa l')), (5, int (↑i : Int))]) (Oper.dst (Oper.mk (some 11) (Op.move (Operand.tmp 5)) 3 "ref.go:471" #[] none)) (evF (upds st [(0, AV.sl k 4 (List.map bxa l)), (1, AV.sl k' 4 (List.map bxa l')), (5, int (↑i : Int))]) (Operand.tmp 5))) (Operand.tmp 0))) (Oper.dst (Oper.mk (some 13) (Op.call (Call.mk (Callee.builtin Builtin.len) #[Operand.tmp 12] #[61])) 3 "ref.go:471" #[Edge.mk 1 Ground.data] none)) (AV.sc (Value.int IntKind.i64 (↑(List.length (List.map bxa l)) : Int)))) (some 14) (Av.bool (decide ((↑i : Int) < (↑(List.length (List.map bxa l)) : Int)))) 4)])) (by kernel_rfl) ⟨(by simp [hlt]), (by exact hD1 (hf.2 rfl) _ _ (by simp) (by simp))⟩⟩
theorem c57 (l l' : List (Int × Int × Int × Int)) (hB : l.length ≤ 1000000) : DCall Try.prog 57 [.sl .ro 4 (l.map bxa), .sl .ro 4 (l'.map bxa)] (bool (decide (l = l'))) := by
  have c1 : closedL (l.map bxa) = true := closedL_map _ _ (fun _ => rfl)
  have c2 : closedL (l'.map bxa) = true := closedL_map _ _ (fun _ => rfl)
  by_cases hl : l.length = l'.length
  · refine DCall.walk hm (T := []) (m := 3000) trivial k57 (by first | rfl | simp [closedL, closedB, closedL_ints, *]) (by first | rfl | simp [closedL, closedB, closedL_ints, *]) rfl (tr := .f <| .l [0, 1, 5] ([Alt.mk (l = l') (Exit.exit 0) [] (some (AS.mk [] [] [])), Alt.mk (l ≠ l') Exit.ret [(4, Av.bool false)] (some (AS.mk [] [] []))]) ((.n) :: [.n])) (Pf := (((↑(List.length (List.map bxa l)) : Int) != (↑(List.length (List.map bxa l')) : Int)) = false) ∧ (LoopC Try.prog 26 (loopOf Try.f57 0) [(0, AV.sl SK.ro 4 (List.map bxa l)), (1, AV.sl SK.ro 4 (List.map bxa l')), (5, int 0)] (AS.mk [] [] []) [Alt.mk (l = l') (Exit.exit 0) [] (some (AS.mk [] [] [])), Alt.mk (l ≠ l') Exit.ret [(4, Av.bool false)] (some (AS.mk [] [] []))]) ∧ ((l = l') → ∀ j_0 : St, (FinV (Av.bool true) (Av.bool (decide (l = l'))))) ∧ ((l ≠ l') → ∀ j_1 : St, (FinV (Av.bool false) (Av.bool (decide (l = l')))))) (by kernel_rfl) ⟨(by simp [hl]), (l57 l l' hB hl), fun h_0 j_0 => (FinV.mk (VLe.of_eq (by simp [*]))), fun h_1 j_1 => (FinV.mk (VLe.of_eq (by simp [*])))⟩
  · have hne : l ≠ l' := fun e => hl (by rw [e])
    refine DCall.walk hm (T := []) (m := 3000) trivial k57 (by first | rfl | simp [closedL, closedB, closedL_ints, *]) (by first | rfl | simp [closedL, closedB, closedL_ints, *]) rfl (tr := .t <| .n) (Pf := (((↑(List.length (List.map bxa l)) : Int) != (↑(List.length (List.map bxa l')) : Int)) = true) ∧ (FinV (Av.bool false) (Av.bool (decide (l = l'))))) (by kernel_rfl) ⟨(by (simp; omega)), (FinV.mk (VLe.of_eq (by simp [hne])))⟩
theorem c57n : DCall Try.prog 57 [nil0, nil0] (bool true) := by
  refine DCall.walk hm (T := []) (m := 3000) trivial k57 (by first | rfl | simp [closedL, closedB, closedL_ints, *]) (by first | rfl | simp [closedL, closedB, closedL_ints, *]) rfl (tr := .r <| .r <| .r <| .n) (Pf := (FinV (Av.bool true) (Av.bool true))) (by kernel_rfl) (FinV.mk (VLe.of_eq (by rfl)))
end Go.Proofs.Ytfjeopaaplnoaaa
