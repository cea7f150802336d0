/- A range over a map from strings to strings, as a function; the laws of its operations at this program. -/
import Derived.Test.YtjgbadopladmdaaDoorMapW
import Derived.Maps.RangeWalk
namespace Go.Proofs.YtjgbadopladmdaaDoor
open Go.RowKit Go.Maps

/-- a range over block b under way, block r its iterator: the map reads as f; 'todo' tells which keys are still to come -/
def SRange (w : World) (b r n : Nat) (f : ByteArray → Option ByteArray) (todo : ByteArray → Bool) (cnt : Nat) : Prop :=
  ∃ (D : DataW Unit) (left : Lit → Bool), w.ranges Tryd.prog 9 (plainElem Tryd.prog 9) b r n D left cnt ∧
    (∀ s : ByteArray, Maps.has D (.string s.data.toList) = (f s).isSome ∧ ∀ v, f s = some v → ∀ z, D.atKey (.string s.data.toList) z = .lit (.string v.data.toList)) ∧ ∀ s : ByteArray, left (.string s.data.toList) = todo s

section
variable {w w' : World} {b r n cnt : Nat} {f : ByteArray → Option ByteArray} {todo : ByteArray → Bool}
theorem SRange.map (h : SRange w b r n f todo cnt) : SMap w b n f := by
  obtain ⟨D, left, h1, h2, _⟩ := h
  exact ⟨D, h1.owns, h2⟩
theorem SRange.kept {row : Option Nat} (h : SRange w b r n f todo cnt) (hg : w.grownBy w' row) (hb : some b ≠ row) (hr : some r ≠ row) : SRange w' b r n f todo cnt := by
  obtain ⟨D, left, h1, h2⟩ := h
  exact ⟨D, left, h1.kept hg hb hr, h2⟩
theorem SRange.left_eq (h : SRange w b r n f todo cnt) : w.rangeLeft b r = cnt := by
  obtain ⟨D, left, h1, _⟩ := h
  exact h1.left_eq
theorem SRange.lt (h : SRange w b r n f todo cnt) : r < w.heap.size := by
  obtain ⟨D, left, h1, _⟩ := h
  exact h1.lt
end

theorem key_str {key : Value} {kl : Lit} (h : keyOf Tryd.prog 9 key = some kl) : ∃ s : ByteArray, key = .string s ∧ kl = .string s.data.toList ∧ s.size ≤ maxLen := by
  cases key <;> simp [keyOf, Tryd.underlying9, mapKey] at h
  rename_i s
  obtain ⟨hs, rfl⟩ := h
  exact ⟨s, rfl, rfl, hs⟩
theorem same_str (s t : ByteArray) : (Lit.string s.data.toList).sameKey (.string t.data.toList) = decide (s = t) := by
  by_cases h : s = t
  · subst h
    rw [WideAt.sameKey_self (show WideAt.IsKeyLit (.string _) from trivial)]
    simp
  · rw [Maps.sameKey_ne (fun e => h (bytes_eq_of (by injection e)))]
    simp [h]

section
variable {ops : Array Oper} {rest : List Oper} {o : Oper} {a : Act} {Q : Exit → Act → World → Prop} (w : World)
theorem wpList_srange (hg : o.guard = none) (m : Operand) (hop : o.op = Op.range 80 m) (b n : Nat) (f : ByteArray → Option ByteArray) (hm : a.eval m = .map (some b)) (hown : SMap w b n f)
    (hK : ∀ w' cnt, SRange w' b w.heap.size n f (fun s => (f s).isSome) cnt → w.grownBy w' none → w'.heap.size = w.heap.size + 1 → wpList Tryd.prog ops Q rest (a.put o.dst (.pointer (some ⟨w.heap.size, 0, none⟩))) w') :
    wpList Tryd.prog ops Q (o :: rest) a w := by
  obtain ⟨D, h1, h2⟩ := hown
  exact wpList_range_own w hg m 80 hop 9 9 lawS Tryd.underlying80 (plainElem Tryd.prog 9) b n D hm h1 (fun w' hr hg hs => hK w' _ ⟨D, _, hr, h2, fun s => (h2 s).1⟩ hg hs)
theorem wpList_snext (hg : o.guard = none) (it : Operand) (hop : o.op = Op.next it false) (b r n : Nat) (f : ByteArray → Option ByteArray) (todo : ByteArray → Bool) (cnt : Nat) (hit : a.eval it = .pointer (some ⟨r, 0, none⟩)) (h : SRange w b r n f todo cnt)
    (hDone : (∀ s, todo s = false) → wpList Tryd.prog ops Q rest (a.put o.dst (.tuple #[.bool false])) w)
    (hMore : ∀ (s v : ByteArray) (w' : World) (cnt' : Nat), s.size ≤ maxLen → todo s = true → SRange w' b r n f (fun t => todo t && !decide (t = s)) cnt' → cnt' < cnt → w.grownBy w' (some r) → w.heap.size ≤ w'.heap.size →
      (Instr.entry (.pointer (some ⟨r, 0, none⟩))).run Tryd.prog w' = .ok (.tuple #[.string s, .string v]) w' → wpList Tryd.prog ops Q rest (a.put o.dst (.tuple #[.bool true, .string s, .string v])) w') :
    wpList Tryd.prog ops Q (o :: rest) a w := by
  obtain ⟨D, left, h1, h2, h3⟩ := h
  refine wpList_next_ranges w hg it hop 9 lawS (plainElem Tryd.prog 9) Value.string Value.string (fun key kl hk => by obtain ⟨s, hs, _⟩ := key_str hk; exact ⟨s, hs⟩)
    (fun v y hv => by obtain ⟨t, e, _⟩ := plainElem_string_inv Tryd.underlying9 hv; exact ⟨t, e⟩) b r n D left cnt hit h1 (fun _ hl => hDone (fun s => by rw [← h3 s]; exact hl _)) ?_
  intro s v kl y w' cnt' hkey hlk hv hat hrg hlt hgr hsz hen
  obtain ⟨s', e, rfl, hs⟩ := key_str hkey
  obtain rfl : s = s' := by injection e
  exact hMore s v w' cnt' hs (by rw [← h3 s]; exact hlk) ⟨D, _, hrg, h2, fun t => by rw [h3 t, same_str]⟩ hlt hgr (by omega) hen
end
end Go.Proofs.YtjgbadopladmdaaDoor
