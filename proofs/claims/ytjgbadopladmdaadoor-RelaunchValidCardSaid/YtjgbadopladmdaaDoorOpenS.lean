/- Slices of structs of one-cell fields, opened as lists of records. -/
import Derived.Test.YtjgbadopladmdaaDoorRelW
import Derived.Test.YtjgbadopladmdaaDoorRecW
import Derived.Deep.Slices
import Derived.Deep.Strs
namespace Go.Proofs.YtjgbadopladmdaaDoor
open Go.ChangeShapes Go.WideShapes Go.RowKit Go.Deep

section
variable {H : Type} {enc : TypeId × Value → H} {w : World} {base : Nat} {sp : Nat → Bool} {hd : Bool}

theorem open_recs {α : Type} [Inhabited α] {f : α → List Value} {s : Nat} {good : α → Prop} (hf : ∀ a, (f a).length = s) (hs : 0 < s) {t e : TypeId} (ht : Tryd.prog.underlying t = some (.slice e)) (hc : Tryd.prog.cellsOf e = s)
    (shape : ∀ (n : Nat) (cs : List Value) (y : DataW H × List MemPlace), DataW.trod enc Tryd.prog w base sp hd n e cs = some y → ∃ a, cs = f a ∧ good a)
    {fuel : Nat} {A : Option Addr} {len cap : Nat} {x : DataW H × List MemPlace} (h : DataW.trod enc Tryd.prog w base sp hd fuel t [.slice A len cap] = some x) :
    ∃ L : List α, Reads w w.heap.size s A len (L.flatMap f) ∧ len = L.length ∧ (∀ a ∈ L, good a) ∧ len ≤ cap ∧ cap ≤ maxLen := by
  rcases open_slice ht h with ⟨e0, _⟩ | ⟨a, len', cap', m, n, D, Pl, e0, _, hl, hm, hmm, _, hx⟩
  · simp only [List.cons.injEq, Value.slice.injEq, and_true] at e0
    obtain ⟨rfl, rfl, rfl⟩ := e0
    exact ⟨[], ⟨by simp, fun h => absurd h (by omega)⟩, rfl, (fun a h => by cases h), Nat.le_refl _, Nat.zero_le _⟩
  · simp only [List.cons.injEq, Value.slice.injEq, and_true] at e0
    obtain ⟨rfl, rfl, rfl⟩ := e0
    have hlm : len ≤ m := by rw [hmm]; split <;> omega
    rw [hc] at hx
    have each : ∀ i, i < m → ∃ b : α, good b ∧ ∀ r, r < s → w.cell? (a.add (i * s + r)) = (f b)[r]? := fun i hi => by
      obtain ⟨cs', h1, h2⟩ := hx i hi
      obtain ⟨b, rfl, hg⟩ := shape _ _ _ h2
      obtain ⟨_, _, hcell⟩ := World.cells?_some h1
      exact ⟨b, hg, fun r hr => by rw [← hcell r hr, add_of_add]⟩
    obtain ⟨F, hF⟩ := choose_lt each
    refine ⟨(List.range len).map F, ⟨?_, fun h0 => ⟨a, rfl, ?_, fun j u hu => ?_⟩⟩, by simp, fun b hb => ?_, hl, hm⟩
    · rw [flat_len hf]; simp
    · have h1 := (hF 0 (by omega)).2 0 hs
      have hlen := hf (F 0)
      have h2 : (f (F 0))[0]? = some ((f (F 0))[0]'(by omega)) := List.getElem?_eq_getElem _
      rw [h2] at h1
      have := World.block_lt_of_cell? w _ h1
      rwa [block_of_add] at this
    · have hjl : j < len * s := by
        have := (List.getElem?_eq_some_iff.1 hu).1
        rw [flat_len hf] at this
        simpa using this
      have hk : j / s < len := Nat.div_lt_of_lt_mul (by rw [Nat.mul_comm]; exact hjl)
      have hr : j % s < s := Nat.mod_lt _ hs
      have hj : j / s * s + j % s = j := by rw [Nat.mul_comm]; exact Nat.div_add_mod j s
      have h1 := flat_at hf ((List.range len).map F) (j / s) (F (j / s)) (j % s) (by rw [List.getElem?_map, List.getElem?_range hk]; rfl) hr
      rw [hj] at h1
      have h2 := (hF (j / s) (by omega)).2 (j % s) hr
      rw [hj] at h2
      rw [h2, ← h1, hu]
    · obtain ⟨i, hi, rfl⟩ := List.mem_map.1 hb
      exact (hF i (by have := List.mem_range.1 hi; omega)).1

theorem two_of {α : Type} {l : List α} (h : l.length = 2) : ∃ a b, l = [a, b] := by
  match l, h with
  | [a, b], _ => exact ⟨a, b, rfl⟩
theorem five_of {α : Type} {l : List α} (h : l.length = 5) : ∃ a b c d e, l = [a, b, c, d, e] := by
  match l, h with
  | [a, b, c, d, e], _ => exact ⟨a, b, c, d, e, rfl⟩

set_option maxRecDepth 100000 in
theorem shape_lk (n : Nat) (cs : List Value) (y : DataW H × List MemPlace) (h : DataW.trod enc Tryd.prog w base sp hd n 74 cs = some y) : ∃ a : Rel.Lk, cs = lc a ∧ True := by
  obtain ⟨xs, m, _, _, hl, hlen, hx⟩ := DataW.trod_struct Tryd.underlying74 h
  have hl : cs.length = 2 := hl.trans (by kernel_rfl)
  have e9 : Tryd.prog.cellsOf 9 = 1 := by kernel_rfl
  obtain ⟨v0, v1, rfl⟩ := two_of hl
  obtain ⟨y0, y1, rfl⟩ := two_of (hlen.trans (show _ = 2 from rfl))
  clear h
  have g0 : DataW.trod enc Tryd.prog w base sp hd m 9 [v0] = some y0 := by have := hx 0 _ rfl; simpa [e9] using this
  have g1 : DataW.trod enc Tryd.prog w base sp hd m 9 [v1] = some y1 := by have := hx 1 _ rfl; simpa [e9] using this
  obtain ⟨s0, q0, _⟩ := DataW.trod_string Tryd.underlying9 g0
  obtain ⟨s1, q1, _⟩ := DataW.trod_string Tryd.underlying9 g1
  simp only [List.cons.injEq, and_true] at q0 q1
  subst q0 q1
  exact ⟨(s0, s1), rfl, trivial⟩

set_option maxRecDepth 100000 in
theorem shape_rw (n : Nat) (cs : List Value) (y : DataW H × List MemPlace) (h : DataW.trod enc Tryd.prog w base sp hd n 43 cs = some y) : ∃ a : Rw, cs = rc a ∧ a.p.size ≤ maxLen := by
  obtain ⟨xs, m, _, _, hl, hlen, hx⟩ := DataW.trod_struct Tryd.underlying43 h
  have hl : cs.length = 5 := hl.trans (by kernel_rfl)
  have e9 : Tryd.prog.cellsOf 9 = 1 := by kernel_rfl
  have e3 : Tryd.prog.cellsOf 3 = 1 := by kernel_rfl
  have e2 : Tryd.prog.cellsOf 2 = 1 := by kernel_rfl
  obtain ⟨v0, v1, v2, v3, v4, rfl⟩ := five_of hl
  obtain ⟨y0, y1, y2, y3, y4, rfl⟩ := five_of (hlen.trans (show _ = 5 from rfl))
  clear h
  have g0 : DataW.trod enc Tryd.prog w base sp hd m 9 [v0] = some y0 := by have := hx 0 _ rfl; simpa [e9] using this
  have g1 : DataW.trod enc Tryd.prog w base sp hd m 9 [v1] = some y1 := by have := hx 1 _ rfl; simpa [e9] using this
  have g2 : DataW.trod enc Tryd.prog w base sp hd m 3 [v2] = some y2 := by have := hx 2 _ rfl; simpa [e3] using this
  have g3 : DataW.trod enc Tryd.prog w base sp hd m 2 [v3] = some y3 := by have := hx 3 _ rfl; simpa [e2] using this
  have g4 : DataW.trod enc Tryd.prog w base sp hd m 2 [v4] = some y4 := by have := hx 4 _ rfl; simpa [e2] using this
  obtain ⟨s0, q0, _⟩ := DataW.trod_string Tryd.underlying9 g0
  obtain ⟨s1, q1, _, hs1⟩ := DataW.trod_string Tryd.underlying9 g1
  obtain ⟨a2, q2, _⟩ := DataW.trod_int Tryd.underlying3 g2
  obtain ⟨a3, q3, _⟩ := DataW.trod_int Tryd.underlying2 g3
  obtain ⟨a4, q4, _⟩ := DataW.trod_int Tryd.underlying2 g4
  simp only [List.cons.injEq, and_true] at q0 q1 q2 q3 q4
  subst q0 q1 q2 q3 q4
  exact ⟨⟨s0, s1, a2, a3, a4⟩, rfl, hs1⟩
end
instance : Inhabited Rw := ⟨⟨⟨#[]⟩, ⟨#[]⟩, 0, 0, 0⟩⟩
end Go.Proofs.YtjgbadopladmdaaDoor
