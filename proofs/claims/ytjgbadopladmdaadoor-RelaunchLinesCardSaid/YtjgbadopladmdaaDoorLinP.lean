/- The plain law of the lines of relaunches: chains from the IDs that nothing leads to; no Go in sight. -/
import Derived.Test.YtjgbadopladmdaaDoorRelP
namespace Go.Proofs.YtjgbadopladmdaaDoor.Rel

/-- an ID and what follows it, in at most k steps -/
def chain (L : List Lk) : Nat → ByteArray → List ByteArray
  | 0, id => [id]
  | k + 1, id => id :: (match forth L id with
    | none => []
    | some o => chain L k o)
def lineFrom (L : List Lk) (id : ByteArray) : List ByteArray := chain L L.length id

theorem chain_none {L : List Lk} {id : ByteArray} (k : Nat) (h : forth L id = none) : chain L k id = [id] := by
  cases k with
  | zero => rfl
  | succ k => unfold chain; rw [h]
theorem chain_some {L : List Lk} {id o : ByteArray} (k : Nat) (h : forth L id = some o) : chain L (k + 1) id = id :: chain L k o := by
  rw [chain, h]
theorem chain_cons (L : List Lk) (k : Nat) (id : ByteArray) : ∃ t, chain L k id = id :: t := by
  cases k with
  | zero => exact ⟨[], rfl⟩
  | succ k => exact ⟨_, rfl⟩
theorem chain_tail (L : List Lk) (k : Nat) (id : ByteArray) : id :: (chain L k id).tail = chain L k id := by
  obtain ⟨t, h⟩ := chain_cons L k id
  rw [h]; rfl

theorem forth_bound_ok {L : List Lk} (hg : Good L) {id y : ByteArray} {j : Nat} (h : iter (forth L) j id = some y) : j ≤ L.length := by
  have h1 := (iter_back_forth hg.uniq j id y).2 h
  exact back_bound hg.uniq hg.acyc (j := j) (id := y) (by rw [h1]; rfl)

/-- where a walk forth from id stands: what is gathered, and how many steps may still come -/
def Walks (L : List Lk) (id : ByteArray) (acc : List ByteArray) (g : Nat) (cur : ByteArray) : Prop :=
  ∃ j, j + g = L.length ∧ iter (forth L) j id = some cur ∧ acc ++ (chain L g cur).tail = lineFrom L id ∧ acc.length = j + 1
theorem walks_start (L : List Lk) (id : ByteArray) : Walks L id [id] L.length id :=
  ⟨0, by omega, rfl, chain_tail L L.length id, rfl⟩
theorem walks_next {L : List Lk} (hg : Good L) {id cur o : ByteArray} {acc : List ByteArray} {g : Nat} (h : Walks L id acc g cur) (hf : forth L cur = some o) : ∃ g', g = g' + 1 ∧ Walks L id (acc ++ [o]) g' o := by
  obtain ⟨j, hj, hi, ha, hl⟩ := h
  have h1 : iter (forth L) (j + 1) id = some o := by rw [iter_succ, hi]; exact hf
  have h2 := forth_bound_ok hg h1
  obtain ⟨g', rfl⟩ : ∃ g', g = g' + 1 := ⟨g - 1, by omega⟩
  refine ⟨g', rfl, j + 1, by omega, h1, ?_, by simp [hl]⟩
  rw [← ha, chain_some g' hf, List.append_assoc]
  show acc ++ (o :: (chain L g' o).tail) = acc ++ chain L g' o
  rw [chain_tail]
theorem walks_end {L : List Lk} {id cur : ByteArray} {acc : List ByteArray} {g : Nat} (h : Walks L id acc g cur) (hf : forth L cur = none) : acc = lineFrom L id := by
  obtain ⟨j, _, _, ha, _⟩ := h
  rw [chain_none g hf] at ha
  simpa using ha
theorem walks_len {L : List Lk} {id cur : ByteArray} {acc : List ByteArray} {g : Nat} (h : Walks L id acc g cur) : acc.length ≤ L.length + 1 := by
  obtain ⟨j, h1, _, _, h2⟩ := h
  omega

/-- the IDs that lines begin with -/
def heads (L : List Lk) : List ByteArray := (L.map (·.1)).filter (fun o => (back L o).isNone)
theorem mem_heads {L : List Lk} {s : ByteArray} : s ∈ heads L ↔ (∃ n, (s, n) ∈ L) ∧ back L s = none := by
  unfold heads
  rw [List.mem_filter, List.mem_map]
  constructor
  · rintro ⟨⟨r, hr, rfl⟩, h⟩
    exact ⟨⟨r.2, hr⟩, by simpa using h⟩
  · rintro ⟨⟨n, hn⟩, h⟩
    exact ⟨⟨_, hn, rfl⟩, by simpa using h⟩
theorem mem_heads_forth {L : List Lk} (u : Uniq L) {s : ByteArray} : s ∈ heads L ↔ (forth L s).isSome = true ∧ back L s = none := by
  rw [mem_heads]
  constructor
  · rintro ⟨⟨n, hn⟩, h⟩
    exact ⟨by rw [forth_of_mem u hn]; rfl, h⟩
  · rintro ⟨h1, h⟩
    obtain ⟨n, hn⟩ := Option.isSome_iff_exists.1 h1
    exact ⟨⟨n, forth_mem hn⟩, h⟩
theorem nodup_filter {α : Type} {p : α → Bool} {l : List α} (h : l.Nodup) : (l.filter p).Nodup := List.Pairwise.filter p h
theorem heads_nodup {L : List Lk} (u : Uniq L) : (heads L).Nodup := nodup_filter u.olds
theorem heads_len (L : List Lk) : (heads L).length ≤ L.length := by
  unfold heads
  exact Nat.le_trans (List.length_filter_le _ _) (by simp)

/-- the bytes of an ID, as the order of strings sees them -/
def key (s : ByteArray) : List UInt8 := s.data.toList
theorem key_inj {s t : ByteArray} (h : key s = key t) : s = t := by
  cases s; cases t
  unfold key at h
  simp only [ByteArray.mk.injEq]
  exact Array.toList_inj.1 h
/-- first IDs in order -/
def fst (l : List ByteArray) : ByteArray := l.headD ⟨#[]⟩
theorem fst_lineFrom (L : List Lk) (s : ByteArray) : fst (lineFrom L s) = s := by
  obtain ⟨t, h⟩ := chain_cons L L.length s
  unfold lineFrom fst
  rw [h]; rfl
def before (a b : List ByteArray) : Prop := key (fst a) < key (fst b)
theorem before_irrefl (a : List ByteArray) : ¬ before a a := List.lt_irrefl _
theorem before_trans {a b c : List ByteArray} (h : before a b) (h' : before b c) : before a c := List.lt_trans h h'
theorem before_asymm {a b : List ByteArray} (h : before a b) : ¬ before b a := fun h' => before_irrefl a (before_trans h h')

/-- the lines of a list of relaunches, in the order of their first IDs -/
structure IsLines (L : List Lk) (Ls : List (List ByteArray)) : Prop where
  sorted : Ls.Pairwise before
  mem : ∀ l, l ∈ Ls ↔ ∃ h ∈ heads L, l = lineFrom L h

theorem sorted_unique {α : Type} {R : α → α → Prop} (hR : ∀ {a b}, R a b → ¬ R b a) : ∀ {A B : List α}, A.Pairwise R → B.Pairwise R → (∀ x, x ∈ A ↔ x ∈ B) → A = B
  | [], [], _, _, _ => rfl
  | [], b :: B, _, _, h => by have := (h b).2 (by simp); cases this
  | a :: A, [], _, _, h => by have := (h a).1 (by simp); cases this
  | a :: A, b :: B, hA, hB, h => by
    obtain ⟨a1, a2⟩ := List.pairwise_cons.1 hA
    obtain ⟨b1, b2⟩ := List.pairwise_cons.1 hB
    have hab : a = b := by
      rcases List.mem_cons.1 ((h a).1 (by simp)) with e | e
      · exact e
      · rcases List.mem_cons.1 ((h b).2 (by simp)) with e' | e'
        · exact e'.symm
        · exact absurd (b1 a e) (hR (a1 b e'))
    subst hab
    have hirr : ¬ R a a := fun hr => hR hr hr
    rw [sorted_unique hR a2 b2 (fun x => ⟨fun hx => ?_, fun hx => ?_⟩)]
    · rcases List.mem_cons.1 ((h x).1 (List.mem_cons_of_mem _ hx)) with e | e
      · subst e; exact absurd (a1 x hx) hirr
      · exact e
    · rcases List.mem_cons.1 ((h x).2 (List.mem_cons_of_mem _ hx)) with e | e
      · subst e; exact absurd (b1 x hx) hirr
      · exact e
theorem IsLines.unique {L : List Lk} {A B : List (List ByteArray)} (hA : IsLines L A) (hB : IsLines L B) : A = B :=
  sorted_unique (fun h => before_asymm h) hA.sorted hB.sorted (fun x => (hA.mem x).trans (hB.mem x).symm)
theorem IsLines.ne_nil {L : List Lk} {A : List (List ByteArray)} (hA : IsLines L A) {l : List ByteArray} (h : l ∈ A) : ∃ s t, l = s :: t ∧ s ∈ heads L := by
  obtain ⟨s, hs, rfl⟩ := (hA.mem l).1 h
  obtain ⟨t, ht⟩ := chain_cons L L.length s
  exact ⟨s, t, ht, hs⟩
end Go.Proofs.YtjgbadopladmdaaDoor.Rel
