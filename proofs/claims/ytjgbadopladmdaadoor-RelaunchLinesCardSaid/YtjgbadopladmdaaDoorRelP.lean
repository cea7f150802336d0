/- The plain law of relaunches: chains of a list of pairs, no Go in sight. -/
import Derived.Test.YtjgbadopladmdaaDoorDigP
namespace Go.Proofs.YtjgbadopladmdaaDoor.Rel

/-- a relaunch: the old ID, the new one -/
abbrev Lk := ByteArray × ByteArray

section
variable {α : Type}
/-- f applied n times -/
def iter (f : α → Option α) : Nat → α → Option α
  | 0, x => some x
  | n + 1, x => (iter f n x).bind f

theorem iter_succ (f : α → Option α) (n : Nat) (x : α) : iter f (n + 1) x = (iter f n x).bind f := rfl
theorem iter_add (f : α → Option α) (m : Nat) : ∀ (n : Nat) (x : α), iter f (m + n) x = (iter f m x).bind (iter f n)
  | 0, x => by cases iter f m x <;> rfl
  | n + 1, x => by
    rw [← Nat.add_assoc, iter_succ, iter_add f m n x]
    cases iter f m x <;> rfl
theorem iter_one (f : α → Option α) (x : α) : iter f 1 x = f x := rfl
theorem iter_front (f : α → Option α) (n : Nat) (x : α) : iter f (n + 1) x = (f x).bind (iter f n) := by
  rw [Nat.add_comm, iter_add, iter_one]

theorem iter_some_le (f : α → Option α) (x : α) {n : Nat} (h : (iter f n x).isSome = true) : ∀ {m : Nat}, m ≤ n → (iter f m x).isSome = true := by
  induction n with
  | zero => intro m hm; obtain rfl : m = 0 := by omega
            exact h
  | succ n ih =>
    intro m hm
    rcases Nat.lt_or_ge m (n + 1) with h1 | h1
    · refine ih ?_ (by omega)
      rw [iter_succ] at h
      cases hh : iter f n x with
      | none => rw [hh] at h; cases h
      | some y => rfl
    · obtain rfl : m = n + 1 := by omega
      exact h

/-- one-to-one where it is defined -/
def Inj (f : α → Option α) : Prop := ∀ a b c, f a = some c → f b = some c → a = b

theorem iter_cancel {f : α → Option α} (hf : Inj f) {x y : α} {d : Nat} : ∀ {i : Nat}, iter f i x = some y → iter f (i + d) x = some y → iter f d x = some x := by
  intro i
  induction i generalizing y with
  | zero => intro h1 h2
            rw [Nat.zero_add] at h2
            rw [h2]; exact h1.symm
  | succ i ih =>
    intro h1 h2
    rw [show i + 1 + d = (i + d) + 1 by omega] at h2
    rw [iter_succ] at h1 h2
    cases h3 : iter f i x with
    | none => rw [h3] at h1; cases h1
    | some u =>
      cases h4 : iter f (i + d) x with
      | none => rw [h4] at h2; cases h2
      | some v =>
        rw [h3] at h1; rw [h4] at h2
        have : u = v := hf u v y h1 h2
        subst this
        exact ih h3 h4

/-- on a cycle one never comes to an end -/
theorem iter_cycle {f : α → Option α} {x : α} {d : Nat} (hd : 1 ≤ d) (h : iter f d x = some x) : ∀ n, (iter f n x).isSome = true := by
  have hm : ∀ k, iter f (d * k) x = some x := by
    intro k
    induction k with
    | zero => rfl
    | succ k ih => rw [Nat.mul_succ, iter_add, ih]; exact h
  intro n
  refine iter_some_le f x (n := d * n) (by rw [hm n]; rfl) ?_
  exact Nat.le_mul_of_pos_left n hd

theorem nodup_le [DecidableEq α] : ∀ (l s : List α), l.Nodup → (∀ a ∈ l, a ∈ s) → l.length ≤ s.length
  | [], _, _, _ => by simp
  | a :: l, s, hn, hs => by
    have h1 : a ∈ s := hs a (by simp)
    have h2 := nodup_le l (s.erase a) (List.nodup_cons.1 hn).2 (fun b hb => by
      have hba : b ≠ a := fun e => (List.nodup_cons.1 hn).1 (e ▸ hb)
      exact (List.mem_erase_of_ne hba).2 (hs b (by simp [hb])))
    rw [List.length_erase_of_mem h1] at h2
    have := List.length_pos_of_mem h1
    simp only [List.length_cons]
    omega

/-- among n + 1 values out of n there are two alike -/
theorem repeat_of [DecidableEq α] (g : Nat → α) (s : List α) (n : Nat) (hn : s.length < n) (hs : ∀ i, i < n → g i ∈ s) : ∃ i j, i < j ∧ j < n ∧ g i = g j := by
  refine Classical.byContradiction fun hno => ?_
  have hnd : ((List.range n).map g).Nodup := by
    rw [List.Nodup, List.pairwise_map]
    refine List.Pairwise.imp_of_mem ?_ (List.pairwise_lt_range (n := n))
    intro a b ha hb hab e
    exact hno ⟨a, b, hab, by simpa using hb, e⟩
  have := nodup_le _ s hnd (fun a ha => by
    obtain ⟨i, hi, rfl⟩ := List.mem_map.1 ha
    exact hs i (by simpa using hi))
  simp at this
  omega
end

def back (L : List Lk) (id : ByteArray) : Option ByteArray := (L.find? (fun r => decide (r.2 = id))).map (·.1)
def forth (L : List Lk) (id : ByteArray) : Option ByteArray := (L.find? (fun r => decide (r.1 = id))).map (·.2)

/-- each ID is left at most once and come to at most once -/
structure Uniq (L : List Lk) : Prop where
  olds : (L.map (·.1)).Nodup
  news : (L.map (·.2)).Nodup

theorem back_mem {L : List Lk} {id o : ByteArray} (h : back L id = some o) : (o, id) ∈ L := by
  unfold back at h
  cases hf : L.find? (fun r => decide (r.2 = id)) with
  | none => rw [hf] at h; cases h
  | some r =>
    rw [hf] at h
    have h1 := List.mem_of_find?_eq_some hf
    have h2 := List.find?_some hf
    have h3 : r.2 = id := by simpa using h2
    have h4 : r.1 = o := Option.some.inj h
    rw [← h3, ← h4]; exact h1
theorem forth_mem {L : List Lk} {id o : ByteArray} (h : forth L id = some o) : (id, o) ∈ L := by
  unfold forth at h
  cases hf : L.find? (fun r => decide (r.1 = id)) with
  | none => rw [hf] at h; cases h
  | some r =>
    rw [hf] at h
    have h1 := List.mem_of_find?_eq_some hf
    have h2 := List.find?_some hf
    have h3 : r.1 = id := by simpa using h2
    have h4 : r.2 = o := Option.some.inj h
    rw [← h3, ← h4]; exact h1

theorem nodup_map_inj {β : Type} {f : Lk → β} : ∀ {L : List Lk}, (L.map f).Nodup → ∀ {a b : Lk}, a ∈ L → b ∈ L → f a = f b → a = b
  | [], _, _, _, ha, _, _ => by cases ha
  | c :: L, h, a, b, ha, hb, e => by
    rw [List.map_cons, List.nodup_cons] at h
    rcases List.mem_cons.1 ha with rfl | ha' <;> rcases List.mem_cons.1 hb with rfl | hb'
    · rfl
    · exact absurd (List.mem_map.2 ⟨b, hb', e.symm⟩) h.1
    · exact absurd (List.mem_map.2 ⟨a, ha', e⟩) h.1
    · exact nodup_map_inj h.2 ha' hb' e

theorem forth_of_mem {L : List Lk} (u : Uniq L) {o n : ByteArray} (h : (o, n) ∈ L) : forth L o = some n := by
  unfold forth
  cases hf : L.find? (fun r => decide (r.1 = o)) with
  | none =>
    have := List.find?_eq_none.1 hf (o, n) h
    simp at this
  | some r =>
    have h1 := List.mem_of_find?_eq_some hf
    have h2 : r.1 = o := by simpa using List.find?_some hf
    have := nodup_map_inj u.olds h1 h h2
    rw [this]; rfl
theorem back_of_mem {L : List Lk} (u : Uniq L) {o n : ByteArray} (h : (o, n) ∈ L) : back L n = some o := by
  unfold back
  cases hf : L.find? (fun r => decide (r.2 = n)) with
  | none =>
    have := List.find?_eq_none.1 hf (o, n) h
    simp at this
  | some r =>
    have h1 := List.mem_of_find?_eq_some hf
    have h2 : r.2 = n := by simpa using List.find?_some hf
    have := nodup_map_inj u.news h1 h h2
    rw [this]; rfl

theorem back_forth {L : List Lk} (u : Uniq L) (a b : ByteArray) : back L b = some a ↔ forth L a = some b :=
  ⟨fun h => forth_of_mem u (back_mem h), fun h => back_of_mem u (forth_mem h)⟩
theorem back_inj {L : List Lk} (u : Uniq L) : Inj (back L) := fun a b c h1 h2 => by
  have e1 := (back_forth u c a).1 h1
  have e2 := (back_forth u c b).1 h2
  rw [e1] at e2; exact Option.some.inj e2
theorem forth_inj {L : List Lk} (u : Uniq L) : Inj (forth L) := fun a b c h1 h2 => by
  have e1 := (back_forth u a c).2 h1
  have e2 := (back_forth u b c).2 h2
  rw [e1] at e2; exact Option.some.inj e2

theorem iter_back_forth {L : List Lk} (u : Uniq L) : ∀ (d : Nat) (x y : ByteArray), iter (back L) d y = some x ↔ iter (forth L) d x = some y
  | 0, x, y => by simp only [iter, Option.some.injEq]; exact eq_comm
  | d + 1, x, y => by
    rw [iter_succ, iter_front, Option.bind_eq_some_iff, Option.bind_eq_some_iff]
    constructor
    · rintro ⟨z, h1, h2⟩
      exact ⟨z, (back_forth u x z).1 h2, (iter_back_forth u d z y).1 h1⟩
    · rintro ⟨z, h1, h2⟩
      exact ⟨z, (iter_back_forth u d z y).2 h2, (back_forth u x z).2 h1⟩

/-- a relaunch whose old ID has predecessors without end -/
def cyc (L : List Lk) (r : Lk) : Bool := (iter (back L) (L.length + 1) r.1).isSome

theorem iter_back_old {L : List Lk} {x y : ByteArray} {n : Nat} (h : iter (back L) (n + 1) x = some y) : y ∈ L.map (·.1) := by
  rw [iter_succ, Option.bind_eq_some_iff] at h
  obtain ⟨z, _, h2⟩ := h
  exact List.mem_map.2 ⟨(y, z), back_mem h2, rfl⟩
theorem iter_forth_new {L : List Lk} {x y : ByteArray} {n : Nat} (h : iter (forth L) (n + 1) x = some y) : y ∈ L.map (·.2) := by
  rw [iter_succ, Option.bind_eq_some_iff] at h
  obtain ⟨z, _, h2⟩ := h
  exact List.mem_map.2 ⟨(z, y), forth_mem h2, rfl⟩

theorem cyc_iff {L : List Lk} (u : Uniq L) {r : Lk} (hr : r ∈ L) : cyc L r = true ↔ ∃ d, 1 ≤ d ∧ iter (back L) d r.1 = some r.1 := by
  constructor
  · intro h
    unfold cyc at h
    have hs : ∀ i, i ≤ L.length + 1 → (iter (back L) i r.1).isSome = true := fun i hi => iter_some_le _ _ h hi
    obtain ⟨i, j, hij, hj, e⟩ := repeat_of (fun i => (iter (back L) i r.1).getD r.1) (L.map (·.1)) (L.length + 1) (by simp) (fun i hi => by
      rcases i with _ | i
      · exact List.mem_map.2 ⟨r, hr, rfl⟩
      · obtain ⟨y, hy⟩ := Option.isSome_iff_exists.1 (hs (i + 1) (by omega))
        rw [hy]
        exact iter_back_old hy)
    obtain ⟨y, hy⟩ := Option.isSome_iff_exists.1 (hs i (by omega))
    obtain ⟨z, hz⟩ := Option.isSome_iff_exists.1 (hs j (by omega))
    rw [hy, hz] at e
    have e' : y = z := e
    subst e'
    refine ⟨j - i, by omega, iter_cancel (back_inj u) hy ?_⟩
    rw [show i + (j - i) = j by omega]; exact hz
  · rintro ⟨d, hd, h⟩
    exact iter_cycle hd h _

/-- the forward walk from a relaunch's new ID: it comes back to the old one just if there is a cycle -/
theorem forth_hit {L : List Lk} (u : Uniq L) {r : Lk} (hr : r ∈ L) {m : Nat} (h : iter (forth L) m r.2 = some r.1) : cyc L r = true := by
  rw [cyc_iff u hr]
  refine ⟨m + 1, by omega, (iter_back_forth u _ _ _).2 ?_⟩
  rw [iter_front, forth_of_mem u (show (r.1, r.2) ∈ L from hr)]
  exact h
theorem forth_end {L : List Lk} (u : Uniq L) {r : Lk} (hr : r ∈ L) {m : Nat} (h : iter (forth L) m r.2 = none) : cyc L r = false := by
  cases hc : cyc L r with
  | false => rfl
  | true =>
    obtain ⟨d, hd, hb⟩ := (cyc_iff u hr).1 hc
    have hf := (iter_back_forth u _ _ _).1 hb
    have := iter_cycle hd hf (m + 1)
    rw [iter_front, forth_of_mem u (show (r.1, r.2) ∈ L from hr)] at this
    have h2 : (iter (forth L) m r.2).isSome = true := this
    rw [h] at h2; cases h2

/-- the forward walk stops within as many steps as there are relaunches -/
theorem forth_bound {L : List Lk} (u : Uniq L) {r : Lk} (hr : r ∈ L) {j : Nat} (hs : ∀ i, i < j → ∃ y, iter (forth L) i r.2 = some y ∧ y ≠ r.1) : j ≤ L.length := by
  refine Classical.byContradiction fun hlt => ?_
  obtain ⟨a, b, hab, hb, e⟩ := repeat_of (fun i => (iter (forth L) i r.2).getD r.1) (L.map (·.2)) j (by simpa using (by omega : L.length < j)) (fun i hi => by
    obtain ⟨y, hy, _⟩ := hs i hi
    rw [hy]
    rcases i with _ | i
    · have : r.2 = y := Option.some.inj hy
      rw [← this]; exact List.mem_map.2 ⟨r, hr, rfl⟩
    · exact iter_forth_new hy)
  obtain ⟨y, hy, _⟩ := hs a (by omega)
  obtain ⟨z, hz, _⟩ := hs b hb
  rw [hy, hz] at e
  have e' : y = z := e
  subst e'
  have hc := iter_cancel (forth_inj u) (d := b - a) hy (by rw [show a + (b - a) = b by omega]; exact hz)
  obtain ⟨k, hk⟩ : ∃ k, b - a = k + 1 := ⟨b - a - 1, by omega⟩
  rw [hk, iter_succ, Option.bind_eq_some_iff] at hc
  obtain ⟨v, h1, h2⟩ := hc
  have h3 := forth_of_mem u (show (r.1, r.2) ∈ L from hr)
  have h4 : v = r.1 := forth_inj u v r.1 r.2 h2 h3
  obtain ⟨v', h5, h6⟩ := hs k (by omega)
  rw [h1] at h5
  exact h6 ((Option.some.inj h5).symm.trans h4)

/-- the first ID of a line, in at most k steps back -/
def top (L : List Lk) : Nat → ByteArray → ByteArray
  | 0, id => id
  | k + 1, id => match back L id with
    | none => id
    | some o => top L k o
def line (L : List Lk) (id : ByteArray) : ByteArray := top L (L.length + 1) id

theorem top_none {L : List Lk} {id : ByteArray} (k : Nat) (h : back L id = none) : top L k id = id := by
  cases k with
  | zero => rfl
  | succ k => unfold top; rw [h]
theorem top_some {L : List Lk} {id o : ByteArray} (k : Nat) (h : back L id = some o) : top L (k + 1) id = top L k o := by
  rw [top, h]

/-- in a list without cycles a walk back ends within as many steps as there are relaunches -/
theorem back_bound {L : List Lk} (u : Uniq L) (hc : ∀ r ∈ L, cyc L r = false) {id : ByteArray} {j : Nat} (hs : (iter (back L) j id).isSome = true) : j ≤ L.length := by
  refine Classical.byContradiction fun hlt => ?_
  have hs' : ∀ i, i ≤ j → (iter (back L) i id).isSome = true := fun i hi => iter_some_le _ _ hs hi
  obtain ⟨a, b, hab, hb, e⟩ := repeat_of (fun i => (iter (back L) (i + 1) id).getD id) (L.map (·.1)) j (by simpa using (by omega : L.length < j)) (fun i hi => by
    obtain ⟨y, hy⟩ := Option.isSome_iff_exists.1 (hs' (i + 1) (by omega))
    rw [hy]
    exact iter_back_old hy)
  obtain ⟨y, hy⟩ := Option.isSome_iff_exists.1 (hs' (a + 1) (by omega))
  obtain ⟨z, hz⟩ := Option.isSome_iff_exists.1 (hs' (b + 1) (by omega))
  rw [hy, hz] at e
  have e' : y = z := e
  subst e'
  obtain ⟨r, hr, hr1⟩ := List.mem_map.1 (iter_back_old hy)
  have h1 : iter (back L) (b - a) y = some y := by
    have := iter_add (back L) (a + 1) (b - a) id
    rw [show a + 1 + (b - a) = b + 1 by omega, hz, hy] at this
    exact this.symm
  have := (cyc_iff u hr).2 ⟨b - a, by omega, by rw [hr1]; exact h1⟩
  rw [hc r hr] at this
  cases this

/-- valid: each ID once, no cycles -/
structure Good (L : List Lk) : Prop where
  uniq : Uniq L
  acyc : ∀ r ∈ L, cyc L r = false

/-- where a walk back from id stands after j steps -/
def Going (L : List Lk) (id : ByteArray) (g : Nat) (cur : ByteArray) : Prop :=
  ∃ j, j + g = L.length ∧ iter (back L) j id = some cur ∧ top L (g + 1) cur = line L id
theorem going_start (L : List Lk) (id : ByteArray) : Going L id L.length id := ⟨0, by omega, rfl, rfl⟩
theorem going_next {L : List Lk} (hg : Good L) {id cur o : ByteArray} {g : Nat} (h : Going L id g cur) (hb : back L cur = some o) : ∃ g', g = g' + 1 ∧ Going L id g' o := by
  obtain ⟨j, hj, hi, ht⟩ := h
  have h1 : iter (back L) (j + 1) id = some o := by rw [iter_succ, hi]; exact hb
  have h2 := back_bound hg.uniq hg.acyc (j := j + 1) (id := id) (by rw [h1]; rfl)
  obtain ⟨g', rfl⟩ : ∃ g', g = g' + 1 := ⟨g - 1, by omega⟩
  refine ⟨g', rfl, j + 1, by omega, h1, ?_⟩
  rw [← ht, top_some (g' + 1) hb]
theorem going_end {L : List Lk} {id cur : ByteArray} {g : Nat} (h : Going L id g cur) (hb : back L cur = none) : line L id = cur := by
  obtain ⟨j, hj, hi, ht⟩ := h
  rw [← ht, top_none (g + 1) hb]

theorem take_at {L : List Lk} {k : Nat} {r : Lk} (h : L[k]? = some r) : L.take (k + 1) = L.take k ++ [r] := by
  obtain ⟨hk, e⟩ := List.getElem?_eq_some_iff.1 h
  rw [List.take_succ_eq_append_getElem hk, e]
theorem find_append_one {p : Lk → Bool} {l : List Lk} {r : Lk} : (l ++ [r]).find? p = (l.find? p).or (if p r then some r else none) := by
  rw [List.find?_append]
  cases h : p r
  · rw [List.find?_cons_of_neg (by simp [h])]; simp
  · rw [List.find?_cons_of_pos (by simp [h])]; simp
theorem forth_take_next {L : List Lk} (u : Uniq L) {k : Nat} {o m : ByteArray} (h : L[k]? = some (o, m)) (y : ByteArray) : forth (L.take (k + 1)) y = if y = o then some m else forth (L.take k) y := by
  have hk := (List.getElem?_eq_some_iff.1 h).1
  rw [take_at h]
  unfold forth
  rw [find_append_one]
  by_cases e : y = o
  · subst e
    have hnone : (L.take k).find? (fun r => decide (r.1 = y)) = none := by
      rw [List.find?_eq_none]
      intro r hr hd
      have hd' : r.1 = y := by simpa using hd
      have hn := u.olds
      rw [← List.take_append_drop k L, List.map_append, List.nodup_append] at hn
      refine hn.2.2 r.1 (List.mem_map.2 ⟨r, hr, rfl⟩) y (List.mem_map.2 ⟨(y, m), ?_, rfl⟩) hd'
      exact List.mem_of_getElem? (i := 0) (by rw [List.getElem?_drop]; exact h)
    rw [hnone, if_pos rfl]
    simp
  · rw [if_neg e]
    have : ¬ (o = y) := fun e' => e e'.symm
    simp [this]
theorem back_take_next {L : List Lk} (u : Uniq L) {k : Nat} {o m : ByteArray} (h : L[k]? = some (o, m)) (y : ByteArray) : back (L.take (k + 1)) y = if y = m then some o else back (L.take k) y := by
  have hk := (List.getElem?_eq_some_iff.1 h).1
  rw [take_at h]
  unfold back
  rw [find_append_one]
  by_cases e : y = m
  · subst e
    have hnone : (L.take k).find? (fun r => decide (r.2 = y)) = none := by
      rw [List.find?_eq_none]
      intro r hr hd
      have hd' : r.2 = y := by simpa using hd
      have hn := u.news
      rw [← List.take_append_drop k L, List.map_append, List.nodup_append] at hn
      refine hn.2.2 r.2 (List.mem_map.2 ⟨r, hr, rfl⟩) y (List.mem_map.2 ⟨(o, y), ?_, rfl⟩) hd'
      exact List.mem_of_getElem? (i := 0) (by rw [List.getElem?_drop]; exact h)
    rw [hnone, if_pos rfl]
    simp
  · rw [if_neg e]
    have : ¬ (m = y) := fun e' => e e'.symm
    simp [this]
end Go.Proofs.YtjgbadopladmdaaDoor.Rel
