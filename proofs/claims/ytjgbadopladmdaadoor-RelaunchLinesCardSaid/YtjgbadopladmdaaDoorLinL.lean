/- The plain law of lines: their IDs, their neighbours, their number. -/
import Derived.Test.YtjgbadopladmdaaDoorLinP
namespace Go.Proofs.YtjgbadopladmdaaDoor.Rel

theorem chain_get {L : List Lk} : ∀ (k i : Nat) (id y : ByteArray), (chain L k id)[i]? = some y → iter (forth L) i id = some y
  | 0, 0, id, y, h => by simpa [chain, iter] using h
  | 0, i + 1, id, y, h => by simp [chain] at h
  | k + 1, 0, id, y, h => by
    unfold chain at h
    simpa [iter] using h
  | k + 1, i + 1, id, y, h => by
    unfold chain at h
    rw [List.getElem?_cons_succ] at h
    cases hf : forth L id with
    | none => rw [hf] at h; simp at h
    | some o =>
      rw [hf] at h
      rw [iter_front, hf]
      exact chain_get k i o y h
theorem get_chain {L : List Lk} : ∀ (k i : Nat) (id y : ByteArray), iter (forth L) i id = some y → i ≤ k → (chain L k id)[i]? = some y
  | 0, 0, id, y, h, _ => by simpa [chain, iter] using h
  | 0, i + 1, id, y, _, hi => absurd hi (by omega)
  | k + 1, 0, id, y, h, _ => by
    unfold chain
    have : id = y := Option.some.inj h
    simp [this]
  | k + 1, i + 1, id, y, h, hi => by
    rw [iter_front] at h
    cases hf : forth L id with
    | none => rw [hf] at h; cases h
    | some o =>
      rw [hf] at h
      unfold chain
      rw [List.getElem?_cons_succ, hf]
      exact get_chain k i o y h (by omega)
theorem top_iter {L : List Lk} {h : ByteArray} (hn : back L h = none) : ∀ (i m : Nat) (y : ByteArray), iter (back L) i y = some h → i ≤ m → top L m y = h
  | 0, m, y, e, _ => by
    have : y = h := Option.some.inj e
    subst this
    exact top_none m hn
  | i + 1, 0, y, _, hi => absurd hi (by omega)
  | i + 1, m + 1, y, e, hi => by
    rw [iter_front] at e
    cases hb : back L y with
    | none => rw [hb] at e; cases e
    | some o =>
      rw [hb] at e
      rw [top_some m hb]
      exact top_iter hn i m o e (by omega)

section
variable {L : List Lk}
/-- every ID of a line has the line's first ID as its line -/
theorem line_of_get (hg : Good L) {h y : ByteArray} (hn : back L h = none) {i : Nat} (hy : iter (forth L) i h = some y) : line L y = h :=
  top_iter hn i (L.length + 1) y ((iter_back_forth hg.uniq i h y).2 hy) (Nat.le_succ_of_le (forth_bound_ok hg hy))
theorem line_at (hg : Good L) {h y : ByteArray} (hn : back L h = none) {i : Nat} (hy : (lineFrom L h)[i]? = some y) : line L y = h := line_of_get hg hn (chain_get _ _ _ _ hy)
theorem pair_at {h a b : ByteArray} {i : Nat} (ha : (lineFrom L h)[i]? = some a) (hb : (lineFrom L h)[i + 1]? = some b) : (a, b) ∈ L := by
  have h1 := chain_get _ _ _ _ ha
  have h2 := chain_get _ _ _ _ hb
  rw [iter_succ, h1] at h2
  exact forth_mem h2
theorem line_nodup (hg : Good L) (h : ByteArray) : (lineFrom L h).Nodup := by
  rw [List.Nodup, List.pairwise_iff_getElem]
  intro i j hi hj hij e
  have h1 := chain_get L.length i h _ (List.getElem?_eq_getElem hi)
  have h2 := chain_get L.length j h _ (List.getElem?_eq_getElem hj)
  rw [← e] at h2
  have h3 := iter_cancel (forth_inj hg.uniq) (d := j - i) h1 (by rw [show i + (j - i) = j by omega]; exact h2)
  have h4 := iter_cycle (by omega) h3 (L.length + 1)
  obtain ⟨y, hy⟩ := Option.isSome_iff_exists.1 h4
  have := forth_bound_ok hg hy
  omega
/-- where a walk back ends -/
theorem back_end (hg : Good L) {y : ByteArray} : ∀ (g j : Nat) (cur : ByteArray), j + g = L.length → iter (back L) j y = some cur → ∃ j' h, iter (back L) j' y = some h ∧ back L h = none ∧ j ≤ j'
  | g, j, cur, hj, hi => by
    cases hb : back L cur with
    | none => exact ⟨j, cur, hi, hb, Nat.le_refl _⟩
    | some o =>
      have h1 : iter (back L) (j + 1) y = some o := by rw [iter_succ, hi]; exact hb
      have h2 := back_bound hg.uniq hg.acyc (j := j + 1) (id := y) (by rw [h1]; rfl)
      obtain ⟨g', rfl⟩ : ∃ g', g = g' + 1 := ⟨g - 1, by omega⟩
      obtain ⟨j', h, a1, a2, a3⟩ := back_end hg g' (j + 1) o (by omega) h1
      exact ⟨j', h, a1, a2, by omega⟩

/-- how many neighbours lines have -/
def pairs (Ls : List (List ByteArray)) : Nat := (Ls.flatMap List.tail).length
theorem pairs_nil : pairs [] = 0 := rfl
theorem pairs_next {Ls : List (List ByteArray)} {x : Nat} {l : List ByteArray} (h : Ls[x]? = some l) : pairs (Ls.take (x + 1)) = pairs (Ls.take x) + (l.length - 1) := by
  obtain ⟨hx, e⟩ := List.getElem?_eq_some_iff.1 h
  unfold pairs
  rw [List.take_succ_eq_append_getElem hx, e, List.flatMap_append, List.length_append]
  simp
theorem mem_tail_get {l : List ByteArray} {y : ByteArray} (h : y ∈ l.tail) : ∃ i, l[i + 1]? = some y := by
  obtain ⟨i, hi⟩ := List.getElem?_of_mem h
  rw [List.getElem?_tail] at hi
  exact ⟨i, hi⟩
theorem pairs_all (hg : Good L) {Ls : List (List ByteArray)} (hL : IsLines L Ls) : pairs Ls = L.length := by
  have hhead : ∀ l ∈ Ls, ∃ h, l = lineFrom L h ∧ back L h = none := fun l hl => by
    obtain ⟨h, hh, e⟩ := (hL.mem l).1 hl
    exact ⟨h, e, (mem_heads.1 hh).2⟩
  have hnd : (Ls.flatMap List.tail).Nodup := by
    rw [List.Nodup, List.pairwise_flatMap]
    refine ⟨fun l hl => ?_, hL.sorted.imp_of_mem ?_⟩
    · obtain ⟨h, rfl, _⟩ := hhead l hl
      exact (line_nodup hg h).sublist (List.tail_sublist _)
    · intro a b ha hb hab x hx y hy e
      obtain ⟨h1, rfl, n1⟩ := hhead a ha
      obtain ⟨h2, rfl, n2⟩ := hhead b hb
      obtain ⟨i, hi⟩ := mem_tail_get hx
      obtain ⟨j, hj⟩ := mem_tail_get hy
      have e1 := line_at hg n1 hi
      have e2 := line_at hg n2 hj
      rw [e, e2] at e1
      rw [e1] at hab
      exact before_irrefl _ hab
  have h1 := nodup_le _ (L.map (·.2)) hnd (fun y hy => by
    obtain ⟨l, hl, hyl⟩ := List.mem_flatMap.1 hy
    obtain ⟨h, rfl, _⟩ := hhead l hl
    obtain ⟨i, hi⟩ := mem_tail_get hyl
    exact iter_forth_new (chain_get _ _ _ _ hi))
  have h2 := nodup_le _ (Ls.flatMap List.tail) hg.uniq.news (fun y hy => by
    obtain ⟨r, hr, rfl⟩ := List.mem_map.1 hy
    have hb : back L r.2 = some r.1 := back_of_mem hg.uniq (show (r.1, r.2) ∈ L from hr)
    obtain ⟨j, h, a1, a2, a3⟩ := back_end hg (y := r.2) L.length 0 r.2 (by omega) rfl
    rcases j with _ | j
    · have : r.2 = h := Option.some.inj a1
      rw [← this, hb] at a2
      cases a2
    · have hf := (iter_back_forth hg.uniq (j + 1) h r.2).1 a1
      have hlen := forth_bound_ok hg hf
      have hget := get_chain L.length (j + 1) h r.2 hf hlen
      have hfs : (forth L h).isSome = true := iter_some_le (forth L) h (n := j + 1) (by rw [hf]; rfl) (m := 1) (by omega)
      refine List.mem_flatMap.2 ⟨lineFrom L h, (hL.mem _).2 ⟨h, (mem_heads_forth hg.uniq).2 ⟨hfs, a2⟩, rfl⟩, ?_⟩
      refine List.mem_of_getElem? (i := j) ?_
      rw [List.getElem?_tail]
      exact hget)
  rw [List.length_map] at h1 h2
  unfold pairs
  omega
end
end Go.Proofs.YtjgbadopladmdaaDoor.Rel
