/- slices.Sort and slices.Compact of an own slice of strings. -/
import Derived.Test.YtjgbadopladmdaaDoorDiffP
import Derived.Test.YtjgbadopladmdaaDoorShelfS
import Derived.Test.YtjgbadopladmdaaDoorShelfC
import Derived.Sort.OwnSorted
import Derived.Lib.RowBridge
namespace Go.Proofs.YtjgbadopladmdaaDoor
open Go.RowKit Go.Sort
open Rel (Lk)

theorem sort_strs (A : Option Addr) (n c base : Nat) (ss : List (List UInt8)) (w : World) (h : w.ownsRow base 9 1 (.slice A n c) n (ss.map encStr)) (hl : ss.length = n) (hn : n ≤ 1000) (hB : base ≤ w.heap.size) :
    Calls Tryd.prog 63 #[.slice A n c] w fun e w' => e = .returned (.tuple #[]) ∧ w'.ownsRow base 9 1 (.slice A n c) n ((ss.mergeSort Dif.leB).map encStr) ∧ Below base w w' := by
  subst hl
  rcases h.2 with ⟨h0, hx⟩ | ⟨g, cap, cur, hv, hbase, hb, h1, h2, h3, h4⟩
  · injection h0 with a1 a2 a3
    subst a1 a3
    have hss : ss = [] := List.length_eq_zero_iff.1 a2
    subst hss
    refine (Tryd.slices_Sort_string_none none 0 w).mono ?_
    rintro e w' ⟨rfl, rfl⟩
    exact ⟨rfl, by simpa using h, Below.refl _ _⟩
  · injection hv with a1 a2 a3
    subst a1 a3
    have hg : g < w.heap.size := (Array.getElem?_eq_some_iff.1 hb).1
    refine (Tryd.slices_Sort_string g 0 c ss w (holds_of_block hb (by simpa using h4)) hg (by omega)).mono ?_
    rintro e w' ⟨rfl, m, os, rfl⟩
    refine ⟨rfl, ownsRow_sorted (ts := ss.mergeSort Dif.leB) (by simp) hbase hb h1 h2 h3, (Below.refl base w).grown (grownBy_sorted _) hB (fun x hx => by have := Option.some.inj hx; omega)⟩

/-- a slice of strings as handed back -/
def Strs (w : World) (base : Nat) (N : List (List UInt8)) (e : Ending) (w' : World) : Prop :=
  ∃ A c, e = .returned (.slice A N.length c) ∧ Reads w' w'.heap.size 1 A N.length (N.map encStr) ∧ Below base w w'

theorem compact_strs (A : Option Addr) (n c base : Nat) (ss : List (List UInt8)) (w : World) (h : w.ownsRow base 9 1 (.slice A n c) n (ss.map encStr)) (hl : ss.length = n) (hn : n ≤ 1000) (hB : base ≤ w.heap.size) :
    Calls Tryd.prog 64 #[.slice A n c] w (Strs w base (Lib.compact ss)) := by
  subst hl
  rcases h.2 with ⟨h0, hx⟩ | ⟨g, cap, cur, hv, hbase, hb, h1, h2, h3, h4⟩
  · injection h0 with a1 a2 a3
    subst a1 a3
    have hss : ss = [] := List.length_eq_zero_iff.1 a2
    subst hss
    refine (Tryd.slices_Compact_string_empty none 0 w).mono ?_
    rintro e w' ⟨rfl, rfl⟩
    exact ⟨none, 0, rfl, ⟨rfl, fun h => absurd h (by decide)⟩, Below.refl _ _⟩
  · injection hv with a1 a2 a3
    subst a1 a3
    have hg : g < w.heap.size := (Array.getElem?_eq_some_iff.1 hb).1
    have hlc := Lib.compact_length_le ss
    have hH : Holds encStr w g 0 ss.toArray := holds_of_block hb (by simpa using h4)
    refine (Tryd.slices_Compact_string g 0 c ss w hH (by omega) h1).mono ?_
    rintro e w' ⟨rfl, m, rfl⟩
    have hg1 := grownBy_sorted (w := w) (g := g) (n := m) (os := #[]) ((Lib.compact ss ++ List.replicate (ss.length - (Lib.compact ss).length) []).toArray)
    rw [grow_empty] at hg1
    have hH2 := holds_putRow encStr (Sort.ahead w m) g 0 ss.toArray (Lib.compact ss ++ List.replicate (ss.length - (Lib.compact ss).length) []).toArray (holds_ahead _ _ _ _ _ _ hH) (by simp; omega)
    have hB2 : Below base w _ := (Below.refl base w).grown hg1 hB (fun x hx => by have := Option.some.inj hx; omega)
    refine ⟨_, _, rfl, ⟨by simp, fun _ => ⟨_, rfl, Nat.lt_of_lt_of_le hg hB2.size, fun j u hu => ?_⟩⟩, hB2⟩
    obtain ⟨hj, hju⟩ := List.getElem?_eq_some_iff.1 hu
    rw [List.length_map] at hj
    rw [List.getElem_map] at hju
    have ha : (⟨g, 0, none⟩ : Addr).add j = ⟨g, 0 + j, none⟩ := by unfold Addr.add; split <;> simp_all
    rw [ha, (hH2 j (by simp; omega)).1, ← hju, getElem!_pos _ j (by simp; omega)]
    simp [List.getElem_append_left hj]
end Go.Proofs.YtjgbadopladmdaaDoor
