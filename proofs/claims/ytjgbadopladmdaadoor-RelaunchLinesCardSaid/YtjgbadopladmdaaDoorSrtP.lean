/- Sorting attributes by name, equal ones in their order: the plain law. -/
import Derived.Test.YtjgbadopladmdaaDoorRelP
import Derived.Lib.Bytealg
namespace Go.Proofs.YtjgbadopladmdaaDoor
namespace Srt
open Rel (Lk)

/-- the name of a comes before that of b -/
def lt (a b : Lk) : Bool := Op.bytesLess a.1.toList b.1.toList

theorem less_cmp : ∀ a b : List UInt8, decide (Lib.compareBytes a b < 0) = Op.bytesLess a b
  | [], [] => by simp [Lib.compareBytes, Op.bytesLess]
  | [], _ :: _ => by simp [Lib.compareBytes, Op.bytesLess]
  | _ :: _, [] => by simp [Lib.compareBytes, Op.bytesLess]
  | a :: x, b :: y => by
    have ih := less_cmp x y
    unfold Lib.compareBytes Op.bytesLess
    by_cases h1 : a < b
    · simp [h1]
    · by_cases h2 : b < a
      · have hne : (a == b) = false := by
          rw [beq_eq_false_iff_ne]; rintro rfl; exact h1 h2
        simp [h1, h2, hne]
      · have he : a = b := by
          rcases (show a < b ∨ a = b ∨ b < a from by rw [UInt8.lt_iff_toNat_lt, UInt8.lt_iff_toNat_lt, ← UInt8.toNat_inj]; omega) with h | h | h
          · exact absurd h h1
          · exact h
          · exact absurd h h2
        subst he
        simp [h1, ← ih]
theorem less_asymm : ∀ a b : List UInt8, Op.bytesLess a b = true → Op.bytesLess b a = false
  | [], [] => by simp [Op.bytesLess]
  | [], _ :: _ => by simp [Op.bytesLess]
  | _ :: _, [] => by simp [Op.bytesLess]
  | a :: x, b :: y => by
    have ih := less_asymm x y
    unfold Op.bytesLess
    intro h
    rw [Bool.or_eq_true, Bool.and_eq_true, decide_eq_true_eq, beq_iff_eq] at h
    rcases h with h | ⟨rfl, h⟩
    · have h1 : ¬ b < a := UInt8.lt_asymm h
      have h2 : (b == a) = false := by
        rw [beq_eq_false_iff_ne]; rintro rfl; exact h1 h
      simp [h1, h2]
    · simp [ih h]
theorem lt_asymm {a b : Lk} (h : lt a b = true) : lt b a = false := less_asymm _ _ h

/-- where x goes among the first j: behind the last that is not greater -/
def posn (x : Lk) (S : List Lk) : Nat → Nat
  | 0 => 0
  | j + 1 => if (S[j]?.map (lt x)).getD false then posn x S j else j + 1
theorem posn_le (x : Lk) (S : List Lk) : ∀ j, posn x S j ≤ j
  | 0 => Nat.le_refl _
  | j + 1 => by
    unfold posn
    have := posn_le x S j
    split <;> omega
theorem posn_step {x y : Lk} {S : List Lk} {j : Nat} (h : S[j]? = some y) (hl : lt x y = true) : posn x S (j + 1) = posn x S j := by
  show (if (S[j]?.map (lt x)).getD false then posn x S j else j + 1) = posn x S j
  rw [h]; simp [hl]
theorem posn_stop {x y : Lk} {S : List Lk} {j : Nat} (h : S[j]? = some y) (hl : lt x y = false) : posn x S (j + 1) = j + 1 := by
  show (if (S[j]?.map (lt x)).getD false then posn x S j else j + 1) = j + 1
  rw [h]; simp [hl]
/-- what stands from the place on is greater -/
theorem posn_gt (x : Lk) (S : List Lk) : ∀ (j : Nat) (i : Nat) (y : Lk), posn x S j ≤ i → i < j → S[i]? = some y → lt x y = true
  | 0, _, _, _, h, _ => by omega
  | j + 1, i, y, h1, h2, h3 => by
    unfold posn at h1
    split at h1
    · rename_i hc
      by_cases e : i = j
      · subst e
        rw [h3] at hc
        simpa using hc
      · exact posn_gt x S j i y h1 (by omega) h3
    · omega
/-- what stands just before is not -/
theorem posn_lt (x : Lk) (S : List Lk) : ∀ (j : Nat) (y : Lk), 0 < posn x S j → j ≤ S.length → S[posn x S j - 1]? = some y → lt x y = false
  | 0, _, h, _, _ => by unfold posn at h; omega
  | j + 1, y, h1, hj, h3 => by
    unfold posn at h1 h3
    split at h1
    · rename_i hc
      rw [if_pos hc] at h3
      exact posn_lt x S j y h1 (by omega) h3
    · rename_i hc
      rw [if_neg hc] at h3
      simp only [Nat.add_sub_cancel] at h3
      rw [h3] at hc
      simpa using hc

def put (S : List Lk) (x : Lk) : List Lk := S.take (posn x S S.length) ++ x :: S.drop (posn x S S.length)
theorem put_len (S : List Lk) (x : Lk) : (put S x).length = S.length + 1 := by
  have := posn_le x S S.length
  unfold put
  rw [List.length_append, List.length_cons, List.length_take, List.length_drop]
  omega
def srt (L : List Lk) : List Lk := L.foldl put []
theorem srt_snoc (L : List Lk) (x : Lk) : srt (L ++ [x]) = put (srt L) x := by unfold srt; rw [List.foldl_append]; rfl
theorem take_snoc' {α : Type} {L : List α} {k : Nat} {x : α} (h : L[k]? = some x) : L.take (k + 1) = L.take k ++ [x] := by
  obtain ⟨hk, rfl⟩ := List.getElem?_eq_some_iff.1 h
  rw [List.take_succ_eq_append_getElem hk]
theorem srt_take {L : List Lk} {k : Nat} {x : Lk} (h : L[k]? = some x) : srt (L.take (k + 1)) = put (srt (L.take k)) x := by
  rw [take_snoc' h, srt_snoc]
theorem foldl_len : ∀ (L S : List Lk), (L.foldl put S).length = S.length + L.length
  | [], S => by simp
  | x :: L, S => by rw [List.foldl_cons, foldl_len L, put_len, List.length_cons]; omega
theorem srt_len (L : List Lk) : (srt L).length = L.length := by unfold srt; rw [foldl_len]; simp

/-- no element is less than the one before it -/
def Ord (S : List Lk) : Prop := ∀ (i : Nat) (a b : Lk), S[i]? = some a → S[i + 1]? = some b → lt b a = false
theorem put_at (S : List Lk) (x : Lk) (i : Nat) : (put S x)[i]? = if i < posn x S S.length then S[i]? else if i = posn x S S.length then some x else S[i - 1]? := by
  have hp := posn_le x S S.length
  unfold put
  by_cases h1 : i < posn x S S.length
  · rw [if_pos h1, List.getElem?_append_left (by rw [List.length_take]; omega), List.getElem?_take, if_pos h1]
  · rw [if_neg h1, List.getElem?_append_right (by rw [List.length_take]; omega), List.length_take, Nat.min_eq_left hp]
    by_cases h2 : i = posn x S S.length
    · rw [if_pos h2, h2, Nat.sub_self]; rfl
    · rw [if_neg h2, show i - posn x S S.length = (i - 1 - posn x S S.length) + 1 by omega, List.getElem?_cons_succ, List.getElem?_drop]
      congr 1; omega
theorem put_ord {S : List Lk} (h : Ord S) (x : Lk) : Ord (put S x) := by
  intro i a b ha hb
  have hgt := posn_gt x S S.length
  have hlt := posn_lt x S S.length
  rw [put_at] at ha hb
  generalize posn x S S.length = p at ha hb hgt hlt
  by_cases h1 : i + 1 < p
  · rw [if_pos (by omega)] at ha
    rw [if_pos h1] at hb
    exact h i a b ha hb
  · rw [if_neg h1] at hb
    by_cases h2 : i + 1 = p
    · rw [if_pos h2] at hb
      rw [if_pos (by omega)] at ha
      obtain rfl := Option.some.inj hb
      exact hlt a (by omega) (Nat.le_refl _) (by rw [← h2]; exact ha)
    · rw [if_neg h2] at hb
      rw [if_neg (by omega)] at ha
      by_cases h3 : i = p
      · rw [if_pos h3] at ha
        obtain rfl := Option.some.inj ha
        have hb' : S[i]? = some b := by simpa using hb
        exact lt_asymm (hgt i b (by omega) (List.getElem?_eq_some_iff.1 hb').1 hb')
      · rw [if_neg h3] at ha
        refine h (i - 1) a b ha ?_
        rw [show i - 1 + 1 = i + 1 - 1 by omega]; exact hb
theorem foldl_ord : ∀ (L S : List Lk), Ord S → Ord (L.foldl put S)
  | [], _, h => h
  | x :: L, S, h => foldl_ord L (put S x) (put_ord h x)
theorem srt_ord (L : List Lk) : Ord (srt L) := foldl_ord L [] (fun i a b h _ => by simp at h)
theorem put_last {S : List Lk} {x : Lk} (h : ∀ y, S[S.length - 1]? = some y → lt x y = false) : put S x = S ++ [x] := by
  have hp : posn x S S.length = S.length := by
    cases hS : S.length with
    | zero => rfl
    | succ n =>
      have hl : S[n]? = some (S[n]'(by omega)) := List.getElem?_eq_getElem (by omega)
      exact posn_stop hl (h _ (by have e : S.length - 1 = n := by omega
                                  rw [e]; exact hl))
  unfold put
  rw [hp, List.take_length, List.drop_length]
theorem srt_take_self {S : List Lk} (h : Ord S) : ∀ k, k ≤ S.length → srt (S.take k) = S.take k
  | 0, _ => by simp [srt]
  | k + 1, hk => by
    have hx : S[k]? = some (S[k]'(by omega)) := List.getElem?_eq_getElem (by omega)
    rw [srt_take hx, srt_take_self h k (by omega), take_snoc' hx]
    refine put_last (fun y hy => ?_)
    rw [List.length_take, Nat.min_eq_left (by omega), List.getElem?_take] at hy
    split at hy
    · exact h (k - 1) y _ hy (by rw [show k - 1 + 1 = k by omega]; exact hx)
    · cases hy
theorem srt_self {S : List Lk} (h : Ord S) : srt S = S := by
  have := srt_take_self h S.length (Nat.le_refl _)
  rwa [List.take_length] at this
theorem srt_srt (L : List Lk) : srt (srt L) = srt L := srt_self (srt_ord L)

theorem mem_put {S : List Lk} {x y : Lk} : y ∈ put S x ↔ y = x ∨ y ∈ S := by
  have e : y ∈ S ↔ y ∈ S.take (posn x S S.length) ∨ y ∈ S.drop (posn x S S.length) := by
    rw [← List.mem_append, List.take_append_drop]
  unfold put
  rw [List.mem_append, List.mem_cons, e]
  constructor
  · rintro (h | h | h)
    · exact .inr (.inl h)
    · exact .inl h
    · exact .inr (.inr h)
  · rintro (h | h | h)
    · exact .inr (.inl h)
    · exact .inl h
    · exact .inr (.inr h)
theorem mem_foldl {y : Lk} : ∀ (L S : List Lk), y ∈ L.foldl put S ↔ y ∈ S ∨ y ∈ L
  | [], S => by simp
  | x :: L, S => by
    rw [List.foldl_cons, mem_foldl L, mem_put, List.mem_cons]
    constructor
    · rintro ((h | h) | h)
      · exact .inr (.inl h)
      · exact .inl h
      · exact .inr (.inr h)
    · rintro (h | h | h)
      · exact .inl (.inr h)
      · exact .inl (.inl h)
      · exact .inr h
theorem mem_srt {L : List Lk} {y : Lk} : y ∈ srt L ↔ y ∈ L := by unfold srt; rw [mem_foldl]; simp
/-- the list while x sinks: x stands at place j among S -/
def mid (S : List Lk) (x : Lk) (j : Nat) (T : List Lk) : List Lk := S.take j ++ x :: (S.drop j ++ T)
theorem mid_len (S : List Lk) (x : Lk) (j : Nat) (T : List Lk) (hj : j ≤ S.length) : (mid S x j T).length = S.length + 1 + T.length := by
  unfold mid
  simp only [List.length_append, List.length_cons, List.length_take, List.length_drop]
  omega
theorem mid_at (S : List Lk) (x : Lk) (j : Nat) (T : List Lk) (hj : j ≤ S.length) : (mid S x j T)[j]? = some x := by
  unfold mid
  rw [List.getElem?_append_right (by rw [List.length_take]; omega), List.length_take, Nat.min_eq_left hj, Nat.sub_self]
  rfl
theorem mid_before (S : List Lk) (x : Lk) (j : Nat) (T : List Lk) (hj : j < S.length) : (mid S x (j + 1) T)[j]? = S[j]? := by
  unfold mid
  rw [List.getElem?_append_left (by rw [List.length_take]; omega), List.getElem?_take, if_pos (by omega)]
theorem mid_swap (S : List Lk) (x y : Lk) (j : Nat) (T : List Lk) (hy : S[j]? = some y) : ((mid S x (j + 1) T).set j x).set (j + 1) y = mid S x j T := by
  obtain ⟨hj, rfl⟩ := List.getElem?_eq_some_iff.1 hy
  refine List.ext_getElem? fun i => ?_
  have e1 : mid S x (j + 1) T = S.take j ++ S[j] :: (x :: (S.drop (j + 1) ++ T)) := by
    unfold mid
    rw [List.take_succ_eq_append_getElem hj, List.append_assoc]
    rfl
  have e2 : mid S x j T = S.take j ++ x :: (S[j] :: (S.drop (j + 1) ++ T)) := by
    unfold mid
    rw [List.drop_eq_getElem_cons hj]
    rfl
  have hl : (S.take j).length = j := by rw [List.length_take]; omega
  rw [e1, e2, List.set_append_right _ _ (by omega), hl, Nat.sub_self, List.set_cons_zero, List.set_append_right _ _ (by omega), hl, show j + 1 - j = 1 by omega]
  rfl
theorem mid_start (L : List Lk) (S : List Lk) (k : Nat) (x : Lk) (hS : S.length = k) (hx : L[k]? = some x) : S ++ L.drop k = mid S x k (L.drop (k + 1)) := by
  obtain ⟨hk, rfl⟩ := List.getElem?_eq_some_iff.1 hx
  subst hS
  unfold mid
  rw [List.drop_eq_getElem_cons hk, List.take_length, List.drop_length]
  rfl
theorem mid_end (S : List Lk) (x : Lk) (T : List Lk) : mid S x (posn x S S.length) T = put S x ++ T := by
  unfold mid put
  simp
end Srt
end Go.Proofs.YtjgbadopladmdaaDoor
