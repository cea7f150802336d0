/- A map from strings to strings, as a function; the laws of its operations at this program. -/
import Derived.Test.YtjgbadopladmdaaDoorProg
import Derived.Test.YtjgbadopladmdaaDoorMem
import Derived.Maps.Own
import Derived.Maps.OwnOps
import Derived.Maps.OwnSet
import Derived.Maps.Views
import Derived.Maps.StringElems
namespace Go.Proofs.YtjgbadopladmdaaDoor
open Go.RowKit Go.Maps

theorem lawS : Keyed Tryd.prog 9 := string_keyed Tryd.underlying9
theorem zeroS (w : World) : (zeroValue 9).run Tryd.prog w = .ok (.string ⟨#[]⟩) w := by kernel_rfl

/-- block b is a map of at most n entries that reads as f -/
def SMap (w : World) (b n : Nat) (f : ByteArray → Option ByteArray) : Prop :=
  ∃ D : DataW Unit, w.ownsMap Tryd.prog 9 (plainElem Tryd.prog 9) b n D ∧ ∀ s : ByteArray, Maps.has D (.string s.data.toList) = (f s).isSome ∧ ∀ v, f s = some v → ∀ z, D.atKey (.string s.data.toList) z = .lit (.string v.data.toList)

theorem SMap.made (w : World) : SMap (w.alloc (.map #[] 0)) w.heap.size 0 (fun _ => none) :=
  ⟨.map [], World.ownsMap_made _ _ _ _, fun _ => ⟨rfl, fun _ h => by cases h⟩⟩
theorem SMap.kept {w w' : World} {b n : Nat} {f : ByteArray → Option ByteArray} (h : SMap w b n f) {row : Option Nat} (hg : w.grownBy w' row) (hne : some b ≠ row) : SMap w' b n f := by
  obtain ⟨D, h1, h2⟩ := h
  exact ⟨D, h1.kept hg hne, h2⟩
theorem SMap.below {w w' : World} {b n B : Nat} {f : ByteArray → Option ByteArray} (h : SMap w b n f) (hb : Below B w w') (hlt : b < B) : SMap w' b n f := by
  obtain ⟨D, ⟨es, c, h0, h1, h2, h3⟩, h4⟩ := h
  exact ⟨D, ⟨es, c, (hb.block b hlt).trans h0, h1, h2, h3⟩, h4⟩
theorem SMap.drewN {w : World} {b n : Nat} {f : ByteArray → Option ByteArray} (h : SMap w b n f) (q : Nat) : SMap (w.drewN q) b n f := h
theorem SMap.alloc {w : World} {b n : Nat} {f : ByteArray → Option ByteArray} (h : SMap w b n f) (o : Obj) : SMap (w.alloc o) b n f := h.kept (World.grownBy_alloc w o none) (by simp)
theorem SMap.lt {w : World} {b n : Nat} {f : ByteArray → Option ByteArray} (h : SMap w b n f) : b < w.heap.size := by
  obtain ⟨D, h1, _⟩ := h
  exact h1.lt
theorem SMap.congr {w : World} {b n : Nat} {f g : ByteArray → Option ByteArray} (h : SMap w b n f) (e : ∀ s, f s = g s) : SMap w b n g := by
  obtain rfl : f = g := funext e
  exact h
theorem SMap.mono {w : World} {b n m : Nat} {f : ByteArray → Option ByteArray} (h : SMap w b n f) (hm : n ≤ m) : SMap w b m f := by
  obtain ⟨D, h1, h2⟩ := h
  exact ⟨D, h1.mono hm, h2⟩

theorem bytes_eq_of {s t : ByteArray} (h : s.data.toList = t.data.toList) : s = t := by
  cases s; cases t
  simp only [ByteArray.mk.injEq]
  exact Array.toList_inj.1 h

/-- 'v, ok := m[key]' -/
theorem wpList_look {ops : Array Oper} {rest : List Oper} {o : Oper} {a : Act} {Q : Exit → Act → World → Prop} (w : World) (hg : o.guard = none) (m x : Operand) (hop : o.op = Op.lookup 80 m x true)
    (b n : Nat) (f : ByteArray → Option ByteArray) (hm : a.eval m = .map (some b)) (hown : SMap w b n f) (s : ByteArray) (hx : a.eval x = .string s) (hs : s.size ≤ maxLen)
    (hK : ∀ v, v.size ≤ maxLen → (∀ u, f s = some u → v = u) → wpList Tryd.prog ops Q rest (a.put o.dst (.tuple #[.string v, .bool (f s).isSome])) w) : wpList Tryd.prog ops Q (o :: rest) a w := by
  obtain ⟨D, h1, h2⟩ := hown
  refine wpList_lookup_own_ok w hg m x 80 hop 9 9 lawS Tryd.underlying80 (plainElem Tryd.prog 9) (zeroS w) (.lit (.string [])) [] (plainElem_string Tryd.underlying9 (by decide)) b n D hm h1 (.string s) (.string s.data.toList) hx (Go.WideMaps.keyOf_string_mk Tryd.underlying9 hs) (fun v ps hv => ?_)
  obtain ⟨t, rfl, hz, hts⟩ := plainElem_string_inv Tryd.underlying9 hv
  rw [(h2 s).1]
  refine hK t hts (fun u hu => ?_)
  have h3 := (h2 s).2 u hu (.lit (.string []))
  rw [h3] at hz
  simp only [Prod.mk.injEq, DataW.lit.injEq, Lit.string.injEq] at hz
  exact (bytes_eq_of hz.1).symm

/-- 'm[key] = val' -/
theorem wpList_put {ops : Array Oper} {rest : List Oper} {o : Oper} {a : Act} {Q : Exit → Act → World → Prop} (w : World) (hg : o.guard = none) (m x v : Operand) (hop : o.op = Op.mapUpdate 80 m x v)
    (b n : Nat) (f : ByteArray → Option ByteArray) (hm : a.eval m = .map (some b)) (hown : SMap w b n f) (hn : n < maxLen) (s t : ByteArray) (hx : a.eval x = .string s) (hv : a.eval v = .string t) (hs : s.size ≤ maxLen) (ht : t.size ≤ maxLen)
    (hK : ∀ w', SMap w' b (n + 1) (fun y => if y = s then some t else f y) → w.grownBy w' (some b) → wpList Tryd.prog ops Q rest (a.put o.dst undef) w') : wpList Tryd.prog ops Q (o :: rest) a w := by
  obtain ⟨D, h1, h2⟩ := hown
  refine wpList_mapUpdate_own w hg m x v 80 hop 9 9 lawS Tryd.underlying80 (plainElem Tryd.prog 9) b n D hm h1 hn (.string s) (.string t) (.string s.data.toList) hx hv (Go.WideMaps.keyOf_string_mk Tryd.underlying9 hs) (.lit (.string t.data.toList)) [] (plainElem_string Tryd.underlying9 ht)
    (fun w' h3 h4 => hK w' ⟨_, h3, fun y => ?_⟩ h4)
  have hD : IsMap D := h1.isMap
  by_cases e : y = s
  · subst e
    simp only [if_pos]
    exact ⟨has_put_same hD (show WideAt.IsKeyLit (.string _) from trivial) _, fun u hu z => by obtain rfl := Option.some.inj hu; exact atKey_put_same hD (show WideAt.IsKeyLit (.string _) from trivial) _ z⟩
  · have hne : (Lit.string y.data.toList) ≠ .string s.data.toList := fun h => e (bytes_eq_of (by injection h))
    simp only [if_neg e]
    exact ⟨by rw [has_put_other hne]; exact (h2 y).1, fun u hu z => by rw [atKey_put_other hne]; exact (h2 y).2 u hu z⟩

/-- 'm[key] = val', as an equation on the operation's run -/
theorem SMap.put_run {w : World} {b n : Nat} {f : ByteArray → Option ByteArray} (h : SMap w b n f) (hn : n < maxLen) (s t : ByteArray) (hs : s.size ≤ maxLen) (ht : t.size ≤ maxLen) :
    ∃ w', (Instr.mapUpdate 80 (.map (some b)) (.string s) (.string t)).run Tryd.prog w = .ok () w' ∧ SMap w' b (n + 1) (fun y => if y = s then some t else f y) ∧ w.grownBy w' (some b) := by
  obtain ⟨D, h1, h2⟩ := h
  obtain ⟨w', hrun, h3, h4⟩ := h1.update lawS Tryd.underlying80 hn (key := .string s) (val := .string t) (kl := .string s.data.toList) (d := .lit (.string t.data.toList)) (ps := []) (Go.WideMaps.keyOf_string_mk Tryd.underlying9 hs) (plainElem_string Tryd.underlying9 ht)
  refine ⟨w', hrun, ⟨_, h3, fun y => ?_⟩, h4⟩
  have hD : IsMap D := h1.isMap
  by_cases e : y = s
  · subst e
    simp only [if_pos]
    exact ⟨has_put_same hD (show WideAt.IsKeyLit (.string _) from trivial) _, fun u hu z => by obtain rfl := Option.some.inj hu; exact atKey_put_same hD (show WideAt.IsKeyLit (.string _) from trivial) _ z⟩
  · have hne : (Lit.string y.data.toList) ≠ .string s.data.toList := fun h => e (bytes_eq_of (by injection h))
    simp only [if_neg e]
    exact ⟨by rw [has_put_other hne]; exact (h2 y).1, fun u hu z => by rw [atKey_put_other hne]; exact (h2 y).2 u hu z⟩
end Go.Proofs.YtjgbadopladmdaaDoor
