/- Where a line is put among the sorted lines of the relaunches so far: the plain law. -/
import Derived.Test.YtjgbadopladmdaaDoorLinS
namespace Go.Proofs.YtjgbadopladmdaaDoor
open Rel

/-- the lines that begin among the first k relaunches, in order -/
structure RGath (L : List Lk) (k : Nat) (zs : List (Value × List ByteArray)) : Prop where
  sorted : (zs.map (·.2)).Pairwise before
  mem : ∀ l, l ∈ zs.map (·.2) ↔ ∃ r ∈ L.take k, back L r.1 = none ∧ l = lineFrom L r.1
  len : zs.length ≤ k

/-- all lines from place j on begin behind s -/
def Ins (zs : List (Value × List ByteArray)) (s : ByteArray) (j : Nat) : Prop := ∀ i p, j ≤ i → zs[i]? = some p → key s < fk p

section
variable {L : List Lk} {k : Nat} {zs : List (Value × List ByteArray)}
theorem rgath_start (L : List Lk) : RGath L 0 [] := ⟨List.Pairwise.nil, fun l => ⟨fun h => absurd h (by simp), fun ⟨r, hr, _⟩ => absurd hr (by simp)⟩, Nat.le_refl _⟩
theorem rgath_skip (h : RGath L k zs) {s n o : ByteArray} (hL : L[k]? = some (s, n)) (hb : back L s = some o) : RGath L (k + 1) zs := by
  refine ⟨h.sorted, fun l => (h.mem l).trans ?_, Nat.le_succ_of_le h.len⟩
  rw [take_at hL]
  constructor
  · rintro ⟨r, hr, h1⟩
    exact ⟨r, List.mem_append_left _ hr, h1⟩
  · rintro ⟨r, hr, h1, h2⟩
    rcases List.mem_append.1 hr with hr | hr
    · exact ⟨r, hr, h1, h2⟩
    · obtain rfl : r = (s, n) := by simpa using hr
      have h1' : back L s = none := h1
      rw [hb] at h1'; cases h1'
theorem rgath_fst (h : RGath L k zs) {p : Value × List ByteArray} (hp : p ∈ zs) : ∃ r ∈ L.take k, p.2 = lineFrom L r.1 ∧ fst p.2 = r.1 := by
  obtain ⟨r, hr, _, e⟩ := (h.mem p.2).1 (List.mem_map.2 ⟨p, hp, rfl⟩)
  exact ⟨r, hr, e, by rw [e, fst_lineFrom]⟩
theorem rgath_pos (h : RGath L k zs) {p : Value × List ByteArray} (hp : p ∈ zs) : 0 < p.2.length := by
  obtain ⟨r, _, e, _⟩ := rgath_fst h hp
  obtain ⟨t, ht⟩ := chain_cons L L.length r.1
  rw [e]
  unfold lineFrom
  rw [ht]
  simp
theorem walks_pos {id cur : ByteArray} {acc : List ByteArray} {g : Nat} (h : Walks L id acc g cur) : 0 < acc.length := by
  obtain ⟨j, _, _, _, h2⟩ := h
  omega
theorem ins_start (zs : List (Value × List ByteArray)) (s : ByteArray) : Ins zs s zs.length := fun i p hi hp => by
  rw [List.getElem?_eq_none hi] at hp; cases hp
theorem ins_step {s : ByteArray} {i : Nat} {p : Value × List ByteArray} (h : Ins zs s (i + 1)) (hp : zs[i]? = some p) (hlt : key s < fk p) : Ins zs s i := fun j q hj hq => by
  rcases Nat.eq_or_lt_of_le hj with e | e
  · subst e
    rw [hp] at hq
    obtain rfl := Option.some.inj hq
    exact hlt
  · exact h j q e hq
/-- the place is found -/
def Place (zs : List (Value × List ByteArray)) (s : ByteArray) (j : Nat) : Prop := Ins zs s j ∧ (j = 0 ∨ ∃ p, zs[j - 1]? = some p ∧ ¬ key s < fk p)
theorem rgath_put (u : Uniq L) (h : RGath L k zs) {s n : ByteArray} {v : Value} (hL : L[k]? = some (s, n)) (hb : back L s = none) {j : Nat} (hP : Place zs s j) (hj : j ≤ zs.length) : RGath L (k + 1) (zs.take j ++ [(v, lineFrom L s)] ++ zs.drop j) := by
  have hno : ∀ p ∈ zs, fst p.2 ≠ s := fun p hp e => by
    obtain ⟨r, hr, _, hf⟩ := rgath_fst h hp
    rw [e] at hf
    have hn := u.olds
    rw [← List.take_append_drop k L, List.map_append, List.nodup_append] at hn
    exact hn.2.2 r.1 (List.mem_map.2 ⟨r, hr, rfl⟩) s (List.mem_map.2 ⟨(s, n), List.mem_of_getElem? (i := 0) (by rw [List.getElem?_drop]; exact hL), rfl⟩) hf.symm
  have hsort := h.sorted
  rw [List.pairwise_map] at hsort
  have hlo : ∀ p ∈ zs.take j, before p.2 (lineFrom L s) := fun p hp => by
    rcases hP.2 with hj0 | ⟨q, hq, hnl⟩
    · subst hj0; exact absurd hp (by simp)
    · have hq' := List.mem_of_getElem? hq
      have hle : fk q < key s := by
        refine Classical.byContradiction fun hge => hno q hq' (key_inj ?_)
        exact List.le_antisymm (List.not_lt.1 hnl) (List.not_lt.1 hge)
      obtain ⟨i, hi⟩ := List.getElem?_of_mem hp
      have hij : i < j := by
        have := (List.getElem?_eq_some_iff.1 hi).1
        rw [List.length_take] at this; omega
      rw [List.getElem?_take_of_lt hij] at hi
      show key (fst p.2) < key (fst (lineFrom L s))
      rw [fst_lineFrom]
      rcases Nat.lt_or_ge i (j - 1) with h1 | h1
      · have h2 : before p.2 q.2 := by
          obtain ⟨hil, rfl⟩ := List.getElem?_eq_some_iff.1 hi
          obtain ⟨hql, rfl⟩ := List.getElem?_eq_some_iff.1 hq
          exact List.pairwise_iff_getElem.1 hsort i (j - 1) hil hql h1
        exact List.lt_trans h2 hle
      · obtain rfl : i = j - 1 := by omega
        rw [hq] at hi
        obtain rfl := Option.some.inj hi
        exact hle
  have hhi : ∀ p ∈ zs.drop j, before (lineFrom L s) p.2 := fun p hp => by
    obtain ⟨i, hi⟩ := List.getElem?_of_mem hp
    rw [List.getElem?_drop] at hi
    show key (fst (lineFrom L s)) < key (fst p.2)
    rw [fst_lineFrom]
    exact hP.1 (j + i) p (by omega) hi
  have hmm : ∀ p, p ∈ zs.take j ++ [(v, lineFrom L s)] ++ zs.drop j ↔ p ∈ zs ∨ p = (v, lineFrom L s) := fun p => by
    conv => rhs; rw [← List.take_append_drop j zs]
    simp only [List.mem_append, List.mem_singleton]
    constructor
    · rintro ((h1 | h1) | h1)
      · exact .inl (.inl h1)
      · exact .inr h1
      · exact .inl (.inr h1)
    · rintro ((h1 | h1) | h1)
      · exact .inl (.inl h1)
      · exact .inr h1
      · exact .inl (.inr h1)
  refine ⟨?_, fun l => ?_, ?_⟩
  · rw [List.pairwise_map, List.append_assoc, List.pairwise_append]
    have hs2 := hsort
    rw [← List.take_append_drop j zs, List.pairwise_append] at hs2
    refine ⟨hs2.1, ?_, fun a ha b hb => ?_⟩
    · rw [List.singleton_append, List.pairwise_cons]
      exact ⟨fun p hp => hhi p hp, hs2.2.1⟩
    · rcases List.mem_append.1 hb with hb | hb
      · obtain rfl : b = (v, lineFrom L s) := by simpa using hb
        exact hlo a ha
      · exact hs2.2.2 a ha b hb
  · rw [List.mem_map, take_at hL]
    constructor
    · rintro ⟨p, hp, rfl⟩
      rcases (hmm p).1 hp with hp | rfl
      · obtain ⟨r, hr, h1, h2⟩ := (h.mem p.2).1 (List.mem_map.2 ⟨p, hp, rfl⟩)
        exact ⟨r, List.mem_append_left _ hr, h1, h2⟩
      · exact ⟨(s, n), by simp, hb, rfl⟩
    · rintro ⟨r, hr, h1, h2⟩
      rcases List.mem_append.1 hr with hr | hr
      · obtain ⟨p, hp, e⟩ := List.mem_map.1 ((h.mem l).2 ⟨r, hr, h1, h2⟩)
        exact ⟨p, (hmm p).2 (.inl hp), e⟩
      · obtain rfl : r = (s, n) := by simpa using hr
        exact ⟨(v, lineFrom L s), (hmm _).2 (.inr rfl), h2.symm⟩
  · have := h.len
    simp only [List.length_append, List.length_take, List.length_drop, List.length_cons, List.length_nil]
    omega
theorem rgath_end {n : Nat} (h : RGath L n zs) (hn : n = L.length) : IsLines L (zs.map (·.2)) := by
  refine ⟨h.sorted, fun l => (h.mem l).trans ?_⟩
  rw [List.take_of_length_le (by omega)]
  constructor
  · rintro ⟨r, hr, h1, h2⟩
    exact ⟨r.1, mem_heads.2 ⟨⟨r.2, hr⟩, h1⟩, h2⟩
  · rintro ⟨s, hs, h2⟩
    obtain ⟨⟨n, hn⟩, h1⟩ := mem_heads.1 hs
    exact ⟨(s, n), hn, h1, h2⟩
end
end Go.Proofs.YtjgbadopladmdaaDoor
