/- A product given by value, opened: its strings and numbers, its attributes as a list. -/
import Derived.Test.YtjgbadopladmdaaDoorOpenS
import Derived.Test.YtjgbadopladmdaaDoorEachT
import Derived.Test.YtjgbadopladmdaaDoorChainW
namespace Go.Proofs.YtjgbadopladmdaaDoor
open Go.ChangeShapes Go.WideShapes Go.RowKit Go.Deep

section
variable {H : Type} {enc : TypeId × Value → H} {w : World} {base : Nat} {sp : Nat → Bool} {hd : Bool}

set_option maxRecDepth 100000 in
theorem shape_at (n : Nat) (cs : List Value) (y : DataW H × List MemPlace) (h : DataW.trod enc Tryd.prog w base sp hd n 57 cs = some y) : ∃ a : Rel.Lk, cs = lc a ∧ True := by
  obtain ⟨xs, m, _, _, hl, hlen, hx⟩ := DataW.trod_struct Tryd.underlying57 h
  have hl : cs.length = 2 := hl.trans (by kernel_rfl)
  have e9 : Tryd.prog.cellsOf 9 = 1 := by kernel_rfl
  obtain ⟨v0, v1, rfl⟩ := two_of hl
  obtain ⟨y0, y1, rfl⟩ := two_of (hlen.trans (show _ = 2 from rfl))
  clear h
  have g0 : DataW.trod enc Tryd.prog w base sp hd m 9 [v0] = some y0 := by have := hx 0 _ rfl; simpa [e9] using this
  have g1 : DataW.trod enc Tryd.prog w base sp hd m 9 [v1] = some y1 := by have := hx 1 _ rfl; simpa [e9] using this
  obtain ⟨s0, q0, _⟩ := DataW.trod_string Tryd.underlying9 g0
  obtain ⟨s1, q1, _⟩ := DataW.trod_string Tryd.underlying9 g1
  simp only [List.cons.injEq, and_true] at q0 q1
  subst q0 q1
  exact ⟨(s0, s1), rfl, trivial⟩
theorem seven_of {α : Type} {l : List α} (h : l.length = 7) : ∃ a b c d e f g, l = [a, b, c, d, e, f, g] := by
  match l, h with
  | [a, b, c, d, e, f, g], _ => exact ⟨a, b, c, d, e, f, g, rfl⟩
theorem three_of {α : Type} {l : List α} (h : l.length = 3) : ∃ a b c, l = [a, b, c] := by
  match l, h with
  | [a, b, c], _ => exact ⟨a, b, c, rfl⟩

set_option maxHeartbeats 2000000 in
set_option maxRecDepth 100000 in
theorem open_prod {r : Reach} {b0 : Nat} {v : Value} {d : DataW H} {ps : List MemPlace} (hv : Value.okWide Tryd.prog w r b0 50 v) (h : DataW.Trod enc Tryd.prog w base sp hd 50 v d ps) :
    ∃ (p : Pr) (A : Option Addr) (n c : Nat) (L : List Rel.Lk), v = .agg (pv p (.slice A n c)) ∧ Reads w w.heap.size 2 A n (L.flatMap lc) ∧ n = L.length ∧ n ≤ c := by
  obtain ⟨cs, rfl, hsz⟩ := okWide_struct Tryd.underlying50 hv
  obtain ⟨l⟩ := cs
  have hl : l.length = 7 := hsz.trans (by kernel_rfl)
  obtain ⟨v0, v1, v2, v3, v4, v5, v6, rfl⟩ := seven_of hl
  obtain ⟨fuel, hf⟩ := h
  obtain ⟨xs, m, _, _, _, hlen, hx⟩ := DataW.trod_struct Tryd.underlying50 hf
  have e9 : Tryd.prog.cellsOf 9 = 1 := by kernel_rfl
  have e3 : Tryd.prog.cellsOf 3 = 1 := by kernel_rfl
  have e2 : Tryd.prog.cellsOf 2 = 1 := by kernel_rfl
  have e47 : Tryd.prog.cellsOf 47 = 3 := by kernel_rfl
  have e48 : Tryd.prog.cellsOf 48 = 1 := by kernel_rfl
  obtain ⟨y0, y1, y2, y3, y4, rfl⟩ := five_of (hlen.trans (show _ = 5 from rfl))
  clear hf
  have g0 : DataW.trod enc Tryd.prog w base sp hd m 9 [v0] = some y0 := by have := hx 0 _ rfl; simpa [e9, Value.cells] using this
  have g1 : DataW.trod enc Tryd.prog w base sp hd m 9 [v1] = some y1 := by have := hx 1 _ rfl; simpa [e9, Value.cells] using this
  have g2 : DataW.trod enc Tryd.prog w base sp hd m 9 [v2] = some y2 := by have := hx 2 _ rfl; simpa [e9, Value.cells] using this
  have g3 : DataW.trod enc Tryd.prog w base sp hd m 47 [v3, v4, v5] = some y3 := by have := hx 3 _ rfl; simpa [e47, Value.cells] using this
  have g4 : DataW.trod enc Tryd.prog w base sp hd m 48 [v6] = some y4 := by have := hx 4 _ rfl; simpa [e48, Value.cells] using this
  obtain ⟨s0, q0, _⟩ := DataW.trod_string Tryd.underlying9 g0
  obtain ⟨s1, q1, _⟩ := DataW.trod_string Tryd.underlying9 g1
  obtain ⟨s2, q2, _⟩ := DataW.trod_string Tryd.underlying9 g2
  obtain ⟨zs, m2, _, _, _, hlen3, hx3⟩ := DataW.trod_struct Tryd.underlying47 g3
  obtain ⟨z0, z1, z2, rfl⟩ := three_of (hlen3.trans (show _ = 3 from rfl))
  have k0 : DataW.trod enc Tryd.prog w base sp hd m2 3 [v3] = some z0 := by have := hx3 0 _ rfl; simpa [e3] using this
  have k1 : DataW.trod enc Tryd.prog w base sp hd m2 3 [v4] = some z1 := by have := hx3 1 _ rfl; simpa [e3] using this
  have k2 : DataW.trod enc Tryd.prog w base sp hd m2 2 [v5] = some z2 := by have := hx3 2 _ rfl; simpa [e2] using this
  obtain ⟨a0, r0, _⟩ := DataW.trod_int Tryd.underlying3 k0
  obtain ⟨a1, r1, _⟩ := DataW.trod_int Tryd.underlying3 k1
  obtain ⟨a2, r2, _⟩ := DataW.trod_int Tryd.underlying2 k2
  obtain ⟨A, n, c, q6⟩ : ∃ (A : Option Addr) (n c : Nat), v6 = .slice A n c := by
    rcases DataW.trod_slice Tryd.underlying48 g4 with ⟨e, _⟩ | ⟨a, len, cap, _, _, _, _, e, _⟩
    · simp only [List.cons.injEq, and_true] at e
      exact ⟨_, _, _, e⟩
    · simp only [List.cons.injEq, and_true] at e
      exact ⟨_, _, _, e⟩
  simp only [List.cons.injEq, and_true] at q0 q1 q2 r0 r1 r2
  subst q0 q1 q2 r0 r1 r2 q6
  obtain ⟨L, hr, hl', _, hc, _⟩ := open_recs (f := lc) lc_len (by omega) Tryd.underlying48 (by kernel_rfl) shape_at g4
  exact ⟨⟨s0, s1, s2, a0, a1, a2⟩, A, n, c, L, rfl, hr, hl', hc⟩
end
end Go.Proofs.YtjgbadopladmdaaDoor
