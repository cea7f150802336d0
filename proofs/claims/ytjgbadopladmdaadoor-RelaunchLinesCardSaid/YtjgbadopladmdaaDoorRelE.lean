/- The plain law of a list of relaunches' error. -/
import Derived.Test.YtjgbadopladmdaaDoorRelV
namespace Go.Proofs.YtjgbadopladmdaaDoor
open Go.RowKit Rel

def badLk (r : Lk) : Bool := !Dig.vid r.1.data.toList || !Dig.vid r.2.data.toList || (r.1.toList == r.2.toList)
def codeOf (L : List Lk) (k : Nat) (r : Lk) : Int := if badLk r then 183 else if (L.take k).any (fun x => share x r) then 184 else 0
def codeAt (L : List Lk) (k : Nat) : Int := match L[k]? with
  | none => 0
  | some r => codeOf L k r
def ph1 (L : List Lk) : Nat → Int
  | 0 => 0
  | k + 1 => if ph1 L k = 0 then codeAt L k else ph1 L k
/-- the first error of a list of relaunches -/
def errno (L : List Lk) : Int := if 200 < L.length then 180 else if ph1 L L.length = 0 then (if L.any (cyc L) then 185 else 0) else ph1 L L.length

theorem ph1_next {L : List Lk} {k : Nat} {r : Lk} (h : ph1 L k = 0) (hr : L[k]? = some r) : ph1 L (k + 1) = codeOf L k r := by
  rw [ph1, if_pos h, codeAt, hr]
theorem ph1_keep {L : List Lk} {k : Nat} (h : ph1 L k ≠ 0) : ∀ j, ph1 L (k + j) = ph1 L k
  | 0 => rfl
  | j + 1 => by rw [← Nat.add_assoc, ph1, if_neg (by rw [ph1_keep h j]; exact h), ph1_keep h j]
theorem ph1_stop {L : List Lk} {k : Nat} {r : Lk} {c : Int} (h : ph1 L k = 0) (hr : L[k]? = some r) (hc : codeOf L k r = c) (hne : c ≠ 0) (hlen : L.length ≤ 200) : errno L = c := by
  have hk := (List.getElem?_eq_some_iff.1 hr).1
  have h1 := ph1_next h hr
  rw [hc] at h1
  have h2 := ph1_keep (L := L) (k := k + 1) (by rw [h1]; exact hne) (L.length - (k + 1))
  rw [show k + 1 + (L.length - (k + 1)) = L.length by omega, h1] at h2
  unfold errno
  rw [if_neg (by omega), h2, if_neg hne]
theorem ph1_zero {L : List Lk} : ∀ {k : Nat}, ph1 L k = 0 → ∀ i, i < k → codeAt L i = 0
  | 0, _, i, hi => by omega
  | k + 1, h, i, hi => by
    rw [ph1] at h
    by_cases h0 : ph1 L k = 0
    · rw [if_pos h0] at h
      rcases Nat.lt_or_ge i k with hik | hik
      · exact ph1_zero h0 i hik
      · obtain rfl : i = k := by omega
        exact h
    · rw [if_neg h0] at h
      exact absurd h h0
theorem code_zero {L : List Lk} {k : Nat} {r : Lk} (hr : L[k]? = some r) (h : codeAt L k = 0) : badLk r = false ∧ (L.take k).any (fun x => share x r) = false := by
  unfold codeAt at h
  rw [hr] at h
  have h' : codeOf L k r = 0 := h
  unfold codeOf at h'
  cases hb : badLk r
  · refine ⟨rfl, ?_⟩
    rw [hb] at h'
    cases ha : (L.take k).any (fun x => share x r)
    · rfl
    · rw [ha] at h'; simp at h'
  · rw [hb] at h'; simp at h'

theorem uniq_of {L : List Lk} (h : ∀ (k : Nat) (r : Lk), L[k]? = some r → (L.take k).any (fun x => share x r) = false) : Uniq L := by
  have key : ∀ i j (hi : i < L.length) (hj : j < L.length), i < j → L[i].1 ≠ L[j].1 ∧ L[i].2 ≠ L[j].2 := by
    intro i j hi hj hij
    have h1 := h j L[j] (List.getElem?_eq_getElem hj)
    have h2 : share L[i] L[j] = false := by
      rw [List.any_eq_false] at h1
      have := h1 L[i] (List.mem_of_getElem? (i := i) (by rw [List.getElem?_take_of_lt hij, List.getElem?_eq_getElem hi]))
      simpa using this
    unfold share at h2
    rw [str_eq, str_eq, Bool.or_eq_false_iff, decide_eq_false_iff_not, decide_eq_false_iff_not] at h2
    exact h2
  constructor
  · rw [List.Nodup, List.pairwise_map, List.pairwise_iff_getElem]
    exact fun i j hi hj hij => (key i j hi hj hij).1
  · rw [List.Nodup, List.pairwise_map, List.pairwise_iff_getElem]
    exact fun i j hi hj hij => (key i j hi hj hij).2
theorem uniq_ph1 {L : List Lk} (h : ph1 L L.length = 0) : Uniq L :=
  uniq_of fun k _ hr => (code_zero hr (ph1_zero h k (List.getElem?_eq_some_iff.1 hr).1)).2
theorem errno_cyc {L : List Lk} (hlen : L.length ≤ 200) (h : ph1 L L.length = 0) {k : Nat} {r : Lk} (hr : L[k]? = some r) (hc : cyc L r = true) : errno L = 185 := by
  unfold errno
  rw [if_neg (by omega), if_pos h, if_pos]
  exact List.any_eq_true.2 ⟨r, List.mem_of_getElem? hr, hc⟩
theorem errno_ok {L : List Lk} (hlen : L.length ≤ 200) (h : ph1 L L.length = 0) (hc : L.any (cyc L) = false) : errno L = 0 := by
  unfold errno
  rw [if_neg (by omega), if_pos h, hc]; rfl
theorem good_of {L : List Lk} (h : errno L = 0) : Rel.Good L ∧ L.length ≤ 200 ∧ ∀ r ∈ L, badLk r = false := by
  unfold errno at h
  by_cases h1 : 200 < L.length
  · rw [if_pos h1] at h; cases h
  · rw [if_neg h1] at h
    by_cases h2 : ph1 L L.length = 0
    · rw [if_pos h2] at h
      cases hc : L.any (cyc L)
      · refine ⟨⟨uniq_ph1 h2, fun r hr => ?_⟩, by omega, fun r hr => ?_⟩
        · rw [List.any_eq_false] at hc
          simpa using hc r hr
        · obtain ⟨k, hk, e⟩ := List.getElem_of_mem hr
          have hr' : L[k]? = some r := by rw [List.getElem?_eq_getElem hk, e]
          exact (code_zero hr' (ph1_zero h2 k hk)).1
      · rw [hc] at h; cases h
    · rw [if_neg h2] at h; exact absurd h h2

/-- where a walk forth from a relaunch's new ID stands -/
def Fwd (L : List Lk) (r : Lk) (g : Nat) (cur : ByteArray) (more : Bool) : Prop :=
  ∃ j, j + g = L.length + 1 ∧ (∀ i, i < j → ∃ y, iter (forth L) i r.2 = some y ∧ y ≠ r.1) ∧ (more = true → iter (forth L) j r.2 = some cur) ∧ (more = false → iter (forth L) j r.2 = none)
theorem fwd_start (L : List Lk) (r : Lk) : Fwd L r (L.length + 1) r.2 true := ⟨0, by omega, fun i hi => by omega, fun _ => rfl, fun h => by cases h⟩
theorem fwd_next {L : List Lk} (u : Uniq L) {r : Lk} (hr : r ∈ L) {g : Nat} {cur : ByteArray} (h : Fwd L r g cur true) (hne : cur ≠ r.1) (v : ByteArray) (hv : ∀ y, forth L cur = some y → v = y) : ∃ g', g = g' + 1 ∧ Fwd L r g' v (forth L cur).isSome := by
  obtain ⟨j, hj, h1, h2, _⟩ := h
  have h3 := h2 rfl
  have hall : ∀ i, i < j + 1 → ∃ y, iter (forth L) i r.2 = some y ∧ y ≠ r.1 := by
    intro i hi
    rcases Nat.lt_or_ge i j with hij | hij
    · exact h1 i hij
    · obtain rfl : i = j := by omega
      exact ⟨cur, h3, hne⟩
  have h4 := forth_bound u hr hall
  obtain ⟨g', rfl⟩ : ∃ g', g = g' + 1 := ⟨g - 1, by omega⟩
  have h5 : iter (forth L) (j + 1) r.2 = forth L cur := by rw [iter_succ, h3]; rfl
  refine ⟨g', rfl, j + 1, by omega, hall, fun hm => ?_, fun hm => ?_⟩
  · obtain ⟨y, hy⟩ := Option.isSome_iff_exists.1 hm
    rw [h5, hv y hy, hy]
  · rw [h5]
    cases hf : forth L cur with
    | none => rfl
    | some y => rw [hf] at hm; cases hm
theorem fwd_hit {L : List Lk} (u : Uniq L) {r : Lk} (hr : r ∈ L) {g : Nat} {cur : ByteArray} (h : Fwd L r g cur true) (he : cur = r.1) : cyc L r = true := by
  obtain ⟨j, _, _, h2, _⟩ := h
  exact forth_hit u hr (by rw [← he]; exact h2 rfl)
theorem fwd_out {L : List Lk} (u : Uniq L) {r : Lk} (hr : r ∈ L) {g : Nat} {cur : ByteArray} (h : Fwd L r g cur false) : cyc L r = false := by
  obtain ⟨j, _, _, _, h3⟩ := h
  exact forth_end u hr (h3 rfl)

theorem Links.cut {w : World} {B n : Nat} {A : Option Addr} {L : List Lk} (h : Links w B A n L) (k : Nat) (hk : k ≤ n) : Links w B A k (L.take k) := by
  have hl := h.len
  have hlen : ∀ l : List Lk, (l.flatMap lc).length = l.length * 2 := fun l => by induction l with
    | nil => rfl
    | cons a l ih => rw [List.flatMap_cons, List.length_append, ih]; simp [lc]; omega
  refine ⟨⟨?_, fun h0 => ?_⟩, by rw [List.length_take]; omega, fun r hr => h.short r (List.mem_of_mem_take hr), by have := h.small; omega⟩
  · rw [hlen, List.length_take]; omega
  · obtain ⟨ad, e, hb, hc⟩ := h.reads.2 (by omega)
    refine ⟨ad, e, hb, fun j u hu => hc j u ?_⟩
    rw [← List.take_append_drop k L, List.flatMap_append, List.getElem?_append_left ((List.getElem?_eq_some_iff.1 hu).1)]
    exact hu
end Go.Proofs.YtjgbadopladmdaaDoor
