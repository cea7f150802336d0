/- The plain law of one long chain of relaunches, open or closed to a ring. -/
import Derived.Test.YtjgbadopladmdaaDoorChainP
import Derived.Test.YtjgbadopladmdaaDoorLinP
namespace Go.Proofs.YtjgbadopladmdaaDoor
open Go.RowKit Rel

/-- the chain of the first k articles -/
def row (k : Nat) : List Lk := (List.range k).map lk
theorem row_len (k : Nat) : (row k).length = k := by simp [row]
theorem mem_row {k : Nat} {r : Lk} : r ∈ row k ↔ ∃ j, j < k ∧ lk j = r := by
  unfold row
  rw [List.mem_map]
  exact ⟨fun ⟨j, hj, e⟩ => ⟨j, List.mem_range.1 hj, e⟩, fun ⟨j, hj, e⟩ => ⟨j, List.mem_range.2 hj, e⟩⟩
theorem row_next (k : Nat) : row (k + 1) = row k ++ [lk k] := by simp [row, List.range_succ]
theorem row_uniq {k : Nat} (hk : k ≤ 300) : Uniq (row k) := chain_uniq List.nodup_range fun j hj => by have := List.mem_range.1 hj; omega
theorem row_ok {k : Nat} (hk : k ≤ 200) : errno (row k) = 0 := chain_ok List.nodup_range (fun j hj => by have := List.mem_range.1 hj; omega) (by simpa using hk)
theorem long_err {L : List Lk} (h : 200 < L.length) : errno L = 180 := by unfold errno; rw [if_pos h]

theorem row_back {k j : Nat} (hk : k ≤ 300) (hj : j < k) : back (row k) (idS ((j : Int) + 1)) = some (idS (j : Int)) := back_of_mem (row_uniq hk) (mem_row.2 ⟨j, hj, rfl⟩)
theorem row_first {k : Nat} (hk : k ≤ 300) : back (row k) (idS 0) = none := by
  cases hb : back (row k) (idS 0) with
  | none => rfl
  | some y =>
    obtain ⟨j, hj, e⟩ := mem_row.1 (back_mem hb)
    have e2 : idS ((j : Int) + 1) = idS 0 := congrArg Prod.snd e
    have := idS_inj (by omega) (by omega) e2
    omega
theorem row_top {k : Nat} (hk : k ≤ 300) : ∀ (m j : Nat), j ≤ m → j ≤ k → top (row k) m (idS (j : Int)) = idS 0
  | m, 0, _, _ => top_none m (row_first hk)
  | m + 1, j + 1, hj, hjk => by
    rw [show ((j + 1 : Nat) : Int) = (j : Int) + 1 by omega, top_some m (row_back hk (by omega))]
    exact row_top hk m j (by omega) (by omega)
theorem row_line {k : Nat} (hk : k ≤ 200) : lineOf (row k) (idS (k : Int)) = idS 0 := by
  rw [lineOf_ok (row_ok hk)]
  unfold line
  rw [row_len]
  exact row_top (by omega) (k + 1) k (by omega) (Nat.le_refl _)
theorem row_head {k : Nat} (hk : k ≤ 300) {s : ByteArray} (h : s ∈ heads (row k)) : s = idS 0 := by
  obtain ⟨⟨n, hn⟩, hb⟩ := mem_heads.1 h
  obtain ⟨j, hj, e⟩ := mem_row.1 hn
  have e1 : idS (j : Int) = s := congrArg Prod.fst e
  rcases j with _ | j
  · exact e1.symm
  · rw [← e1, show ((j + 1 : Nat) : Int) = (j : Int) + 1 by omega, row_back hk (by omega)] at hb
    cases hb
theorem row_one {k : Nat} (hk : k ≤ 200) (h0 : 0 < k) {Ls : List (List ByteArray)} (h : IsLines (row k) Ls) : Ls.length = 1 := by
  have hall : ∀ l ∈ Ls, l = lineFrom (row k) (idS 0) := fun l hl => by
    obtain ⟨s, hs, rfl⟩ := (h.mem l).1 hl
    rw [row_head (by omega) hs]
  have hin : lineFrom (row k) (idS 0) ∈ Ls := (h.mem _).2 ⟨idS 0, mem_heads.2 ⟨⟨_, mem_row.2 ⟨0, h0, rfl⟩⟩, row_first (by omega)⟩, rfl⟩
  have hs := h.sorted
  match Ls, hin, hall, hs with
  | [_], _, _, _ => rfl
  | a :: b :: t, _, hall, hs =>
    have e1 := hall a (by simp)
    have e2 := hall b (by simp)
    have := (List.pairwise_cons.1 hs).1 b (by simp)
    rw [e1, e2] at this
    exact absurd this (before_irrefl _)

theorem ph1_free {L : List Lk} (u : Uniq L) (hb : ∀ r ∈ L, badLk r = false) : ∀ k, k ≤ L.length → ph1 L k = 0
  | 0, _ => rfl
  | k + 1, hk => by
    have hr : L[k]? = some (L[k]'(by omega)) := List.getElem?_eq_getElem (by omega)
    rw [ph1_next (ph1_free u hb k (by omega)) hr]
    have hany : (L.take k).any (fun x => share x (L[k]'(by omega))) = false := by
      rw [List.any_eq_false]
      intro x hx
      obtain ⟨i, hi, e⟩ := List.getElem_of_mem hx
      rw [List.length_take] at hi
      rw [List.getElem_take] at e
      have h1 : x.1 ≠ (L[k]'(by omega)).1 := by
        have h := u.olds
        rw [List.Nodup, List.pairwise_map] at h
        rw [← e]
        exact List.pairwise_iff_getElem.1 h i k (by omega) (by omega) (by omega)
      have h2 : x.2 ≠ (L[k]'(by omega)).2 := by
        have h := u.news
        rw [List.Nodup, List.pairwise_map] at h
        rw [← e]
        exact List.pairwise_iff_getElem.1 h i k (by omega) (by omega) (by omega)
      unfold share
      rw [str_eq, str_eq]
      simp [h1, h2]
    unfold codeOf
    rw [hb _ (List.getElem_mem _), hany]
    rfl

/-- the chain closed to a ring: the last relaunch leads to the first article -/
def ring (k : Nat) : List Lk := row k ++ [(idS (k : Int), idS 0)]
theorem ring_len (k : Nat) : (ring k).length = k + 1 := by simp [ring, row_len]
theorem mem_ring {k : Nat} {r : Lk} : r ∈ ring k ↔ (∃ j, j < k ∧ lk j = r) ∨ r = (idS (k : Int), idS 0) := by
  unfold ring
  rw [List.mem_append, mem_row, List.mem_singleton]
theorem ring_uniq {k : Nat} (hk : k ≤ 300) : Uniq (ring k) := by
  have hu := row_uniq hk
  constructor
  · unfold ring
    rw [List.map_append, List.nodup_append]
    refine ⟨hu.olds, by simp, fun a ha b hb e => ?_⟩
    obtain ⟨r, hr, rfl⟩ := List.mem_map.1 ha
    obtain ⟨j, hj, rfl⟩ := mem_row.1 hr
    obtain rfl : b = idS (k : Int) := by simpa using hb
    have e' : idS (j : Int) = idS (k : Int) := e
    have := idS_inj (by omega) (by omega) e'
    omega
  · unfold ring
    rw [List.map_append, List.nodup_append]
    refine ⟨hu.news, by simp, fun a ha b hb e => ?_⟩
    obtain ⟨r, hr, rfl⟩ := List.mem_map.1 ha
    obtain ⟨j, hj, rfl⟩ := mem_row.1 hr
    obtain rfl : b = idS 0 := by simpa using hb
    have e' : idS ((j : Int) + 1) = idS 0 := e
    have := idS_inj (by omega) (by omega) e'
    omega
theorem ring_bad {k : Nat} (hk : k ≤ 300) (h0 : 0 < k) : ∀ r ∈ ring k, badLk r = false := fun r hr => by
  rcases mem_ring.1 hr with ⟨j, hj, rfl⟩ | rfl
  · exact lk_bad (by omega)
  · unfold badLk
    rw [idS_vid, idS_vid, str_eq]
    have : idS (k : Int) ≠ idS 0 := fun h => by
      have := idS_inj (by omega) (by omega) h; omega
    simp [this]
theorem ring_back {k : Nat} (hk : k ≤ 300) : ∀ (d i : Nat), i + d ≤ k → iter (back (ring k)) d (idS ((i + d : Nat) : Int)) = some (idS (i : Int))
  | 0, i, _ => rfl
  | d + 1, i, h => by
    rw [iter_succ, show i + (d + 1) = (i + 1) + d by omega, ring_back hk d (i + 1) (by omega)]
    show back (ring k) (idS ((i + 1 : Nat) : Int)) = some (idS (i : Int))
    exact back_of_mem (ring_uniq hk) (mem_ring.2 (.inl ⟨i, by omega, rfl⟩))
theorem ring_cyc {k : Nat} (hk : k ≤ 300) (h0 : 0 < k) : cyc (ring k) (lk 0) = true := by
  refine (cyc_iff (ring_uniq hk) (mem_ring.2 (.inl ⟨0, h0, rfl⟩))).2 ⟨k + 1, by omega, ?_⟩
  rw [iter_front, show (lk 0).1 = idS 0 from rfl, back_of_mem (ring_uniq hk) (mem_ring.2 (.inr rfl))]
  have := ring_back hk k 0 (by omega)
  rw [Nat.zero_add] at this
  exact this
theorem ring_err {k : Nat} (hk : k + 1 ≤ 200) (h0 : 0 < k) : errno (ring k) = 185 := by
  refine errno_cyc (k := 0) (r := lk 0) (by rw [ring_len]; omega) (ph1_free (ring_uniq (by omega)) (ring_bad (by omega) h0) _ (Nat.le_refl _)) ?_ (ring_cyc (by omega) h0)
  unfold ring
  rw [List.getElem?_append_left (by rw [row_len]; exact h0)]
  unfold row
  rw [List.getElem?_map, List.getElem?_range h0]
  rfl
end Go.Proofs.YtjgbadopladmdaaDoor
