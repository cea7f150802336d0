/- The names of the attributes in which two lists differ: the plain law. -/
import Derived.Test.YtjgbadopladmdaaDoorAMapW
import Derived.Test.YtjgbadopladmdaaDoorSrtP
import Derived.Lib.SlicesCompact
import Derived.Sort.Walk0
namespace Go.Proofs.YtjgbadopladmdaaDoor
open Go.Sort
open Rel (Lk)
namespace Dif

/-- a name's bytes -/
def nm (r : Lk) : List UInt8 := r.1.data.toList
/-- those of one list alone, the first's ahead -/
def odd (La Lb : List Lk) : List Lk := La.filter (fun r => !isIn Lb r) ++ Lb.filter (fun r => !isIn La r)
def leB (a b : List UInt8) : Bool := decide (a ≤ b)
/-- their names, sorted, each once -/
def dif (La Lb : List Lk) : List (List UInt8) := Lib.compact (((odd La Lb).map nm).mergeSort leB)

theorem isIn_of {L : List Lk} {k : Nat} {r : Lk} (h : L[k]? = some r) : isIn L r = true := by
  unfold isIn
  exact List.any_eq_true.2 ⟨r, List.mem_of_getElem? h, by simp⟩
theorem isIn_mem {L : List Lk} {r : Lk} (h : r ∈ L) : isIn L r = true := List.any_eq_true.2 ⟨r, h, by simp⟩

theorem leB_trans (a b c : List UInt8) (h1 : leB a b = true) (h2 : leB b c = true) : leB a c = true := by simp only [leB, decide_eq_true_eq] at *; exact List.le_trans h1 h2
theorem leB_total (a b : List UInt8) : (leB a b || leB b a) = true := by simp only [leB, Bool.or_eq_true, decide_eq_true_eq]; exact List.le_total a b
theorem sort_eq {l l' : List (List UInt8)} (h : l.Perm l') (hs : l.Pairwise (fun a b => leB a b = true)) : l = l'.mergeSort leB := by
  refine List.Perm.eq_of_pairwise (le := fun a b => leB a b = true) (fun a b _ _ h1 h2 => ?_) hs (List.pairwise_mergeSort leB_trans leB_total l') (h.trans (List.mergeSort_perm l' leB).symm)
  simp only [leB, decide_eq_true_eq] at h1 h2
  exact List.le_antisymm h1 h2
theorem sort_perm {l l' : List (List UInt8)} (h : l.Perm l') : l.mergeSort leB = l'.mergeSort leB :=
  sort_eq ((List.mergeSort_perm l leB).trans h) (List.pairwise_mergeSort leB_trans leB_total l)

/-- the order of the two does not matter -/
theorem dif_comm (La Lb : List Lk) : dif La Lb = dif Lb La := by
  unfold dif odd
  rw [sort_perm ((List.perm_append_comm (l₁ := La.filter (fun r => !isIn Lb r)) (l₂ := Lb.filter (fun r => !isIn La r))).map nm)]

/-- what the program gathers -/
theorem odd_prog (La Lb : List Lk) : La.filter (fun r => isIn La r != isIn Lb r) ++ Lb.filter (fun r => isIn La r != isIn Lb r) = odd La Lb := by
  unfold odd
  congr 1
  · refine List.filter_congr fun r hr => ?_
    rw [isIn_mem hr]
    cases isIn Lb r <;> rfl
  · refine List.filter_congr fun r hr => ?_
    rw [isIn_mem hr]
    cases isIn La r <;> rfl

/-! the reference: insertion, then the names without repeats -/
theorem put_perm (S : List Lk) (x : Lk) : (Srt.put S x).Perm (x :: S) := by
  unfold Srt.put
  refine List.perm_middle.trans ?_
  rw [List.take_append_drop]
theorem foldl_perm : ∀ (L S : List Lk), (L.foldl Srt.put S).Perm (S ++ L)
  | [], S => by simp
  | x :: L, S => by
    rw [List.foldl_cons]
    refine (foldl_perm L (Srt.put S x)).trans ?_
    refine ((put_perm S x).append_right L).trans ?_
    rw [List.cons_append]
    exact List.perm_middle.symm
theorem srt_perm (L : List Lk) : (Srt.srt L).Perm L := foldl_perm L []

theorem le_of_lt {a b : Lk} (h : Srt.lt b a = false) : leB (nm a) (nm b) = true := by
  unfold Srt.lt at h
  rw [bytesLess_eq, Lib.toList_data, Lib.toList_data] at h
  simp only [decide_eq_false_iff_not, List.not_lt] at h
  simpa [leB, nm] using h
theorem pair_of_ord : ∀ (S : List Lk), Srt.Ord S → (S.map nm).Pairwise (fun a b => leB a b = true)
  | [], _ => .nil
  | [a], _ => by simp
  | a :: b :: S, h => by
    have ih := pair_of_ord (b :: S) (fun i x y hx hy => h (i + 1) x y (by simpa using hx) (by simpa using hy))
    have h0 := le_of_lt (h 0 a b rfl rfl)
    rw [List.map_cons, List.pairwise_cons]
    refine ⟨fun y hy => ?_, ih⟩
    rw [List.map_cons, List.mem_cons] at hy
    rcases hy with rfl | hy
    · exact h0
    · rw [List.map_cons, List.pairwise_cons] at ih
      exact leB_trans _ _ _ h0 (ih.1 y hy)
theorem srt_names (L : List Lk) : (Srt.srt L).map nm = (L.map nm).mergeSort leB := sort_eq ((srt_perm L).map nm) (pair_of_ord _ (Srt.srt_ord L))
theorem dif_ref (La Lb : List Lk) : Lib.compact ((Srt.srt (odd La Lb)).map nm) = dif La Lb := by rw [srt_names]; rfl

/-- of the first k names those that are no repeats -/
def upTo (S : List Lk) (k : Nat) : List (List UInt8) := Lib.compactUpTo (S.map nm).toArray k
theorem at_ {S : List Lk} {k : Nat} {r : Lk} (h : S[k]? = some r) : (S.map nm).toArray[k]! = nm r := by
  obtain ⟨hk, rfl⟩ := List.getElem?_eq_some_iff.1 h
  rw [getElem!_pos _ k (by simpa using hk)]
  simp
theorem upTo_last (S : List Lk) : ∀ k, (upTo S (k + 1)).getLast? = some (S.map nm).toArray[k]!
  | 0 => by unfold upTo; rw [Lib.compactUpTo_succ]; simp [Lib.keeps, Lib.compactUpTo]
  | k + 1 => by
    have ih := upTo_last S k
    unfold upTo at ih ⊢
    rw [Lib.compactUpTo_succ]
    by_cases h : (S.map nm).toArray[k + 1]! = (S.map nm).toArray[k]!
    · rw [Lib.keeps_neg (by omega) (by simpa using h), h]
      simpa using ih
    · rw [Lib.keeps_pos (by simpa using h)]
      simp
theorem upTo_zero (S : List Lk) : upTo S 0 = [] := rfl
theorem upTo_pos (S : List Lk) (k : Nat) : 0 < (upTo S (k + 1)).length := by
  have := upTo_last S k
  cases h : upTo S (k + 1) with
  | nil => rw [h] at this; cases this
  | cons => simp
theorem upTo_len (S : List Lk) : ∀ k, (upTo S k).length ≤ k
  | 0 => Nat.le_refl _
  | k + 1 => by
    have := upTo_len S k
    unfold upTo at this ⊢
    rw [Lib.compactUpTo_succ]
    split <;> simp <;> omega
theorem upTo_keep {S : List Lk} {k : Nat} {r : Lk} (h : S[k]? = some r) (hne : k = 0 ∨ (upTo S k).getLast? ≠ some (nm r)) : upTo S (k + 1) = upTo S k ++ [nm r] := by
  unfold upTo
  rw [Lib.compactUpTo_succ, at_ h]
  have : Lib.keeps (S.map nm).toArray k = true := by
    rcases k with _ | k
    · rfl
    · refine Lib.keeps_pos ?_
      rcases hne with h0 | hne
      · cases h0
      · rw [upTo_last] at hne
        rw [at_ h]
        exact fun e => hne (by rw [e]; rfl)
  rw [this]
  rfl
theorem upTo_skip {S : List Lk} {k : Nat} {r : Lk} (h : S[k]? = some r) (hk : 0 < k) (he : (upTo S k).getLast? = some (nm r)) : upTo S (k + 1) = upTo S k := by
  obtain ⟨k, rfl⟩ : ∃ j, k = j + 1 := ⟨k - 1, by omega⟩
  rw [upTo_last] at he
  unfold upTo
  rw [Lib.compactUpTo_succ, Lib.keeps_neg (by omega)]
  · simp
  · rw [at_ h]
    exact (Option.some.inj he).symm
theorem upTo_all (S : List Lk) : upTo S S.length = Lib.compact (S.map nm) := by
  unfold upTo Lib.compact
  rw [List.length_map]
end Dif
end Go.Proofs.YtjgbadopladmdaaDoor
