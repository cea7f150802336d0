/- A row of one-cell values of the call's own, sorted by the library: between append's words and the sort's; no program in sight. -/
import Derived.Test.YtjgbadopladmdaaDoorLinP
import Derived.Test.YtjgbadopladmdaaDoorRecW
import Derived.Sort.OwnSorted
import Derived.Shelf.SlSortCmp.Insertion
import Derived.Test.YtjgbadopladmdaaDoorSrtP
import Derived.Sort.Walk0
namespace Go.Proofs.YtjgbadopladmdaaDoor
open Go.Sort Go.Lib Go.RowKit

section
variable {α : Type} [Inhabited α] {enc : α → Value} {w : World} {g n base cap : Nat} {e : TypeId} {cur : Array Value} {os : Array Obj}
theorem holds_own {ss : List α} (hb : w.heap[g]? = some (.cells cur e (0, 0))) (ht : cur.toList.take ss.length = ss.map enc) : Holds enc w g 0 ss.toArray := by
  intro j hj
  have hj' : j < ss.length := by simpa using hj
  refine ⟨?_, by simp [World.frozen?, hb]⟩
  have h1 : (cur.toList.take ss.length)[j]? = (ss.map enc)[j]? := by rw [ht]
  rw [List.getElem?_take_of_lt hj'] at h1
  simp only [World.cell?, hb, Nat.zero_add]
  simp only [Option.isSome_none, Bool.false_eq_true, if_false]
  rw [← Array.getElem?_toList, h1]
  simp [hj']
theorem heap_sortw (d : Array α) {fr : Nat × Nat} (hb : w.heap[g]? = some (.cells cur e fr)) : (sortWorld enc w g 0 n d os).heap[g]? = some (.cells (putCells enc 0 d cur) e fr) := by
  have hg : g < w.heap.size := (Array.getElem?_eq_some_iff.1 hb).1
  unfold sortWorld
  rw [heap_grow_old _ _ (by simpa using hg)]
  simp [putRow, mapBlock, Sort.ahead, Array.getElem?_modify, hb, onCells]
theorem grown_sortw (d : Array α) : w.grownBy (sortWorld enc w g 0 n d os) (some g) := by
  unfold sortWorld
  refine ⟨rfl, rfl, rfl, by simp, fun k hk hne => ?_⟩
  rw [heap_grow_old _ _ (by simpa using hk)]
  have : g ≠ k := fun e => hne (by rw [e])
  simp [putRow, mapBlock, Sort.ahead, Array.getElem?_modify, this]
theorem take_putc (cur : Array Value) (ts : List α) (h : ts.length ≤ cur.size) : (putCells enc 0 ts.toArray cur).toList.take ts.length = ts.map enc := by
  apply List.ext_getElem?
  intro j
  by_cases hj : j < ts.length
  · rw [List.getElem?_take_of_lt hj, Array.getElem?_toList]
    simp [putCells, hj, show j < cur.size by omega]
  · rw [List.getElem?_take_eq_none (by omega), List.getElem?_eq_none (by simp; omega)]
/-- behind the sort the same slice owns the sorted list -/
theorem own_sortw {m : Nat} {ts : List α} (hl : ts.length = m) (hbase : base ≤ g) (hb : w.heap[g]? = some (.cells cur e (0, 0))) (h1 : m ≤ cap) (h2 : cap ≤ maxLen) (h3 : cur.size = cap * 1) :
    (sortWorld enc w g 0 n ts.toArray os).ownsRow base e 1 (.slice (some ⟨g, 0, none⟩) m cap) m (ts.map enc) :=
  ⟨by simp [hl], .inr ⟨g, cap, _, rfl, hbase, heap_sortw _ hb, h1, h2, by simp [putCells, h3], by rw [Nat.mul_one, ← hl]; exact take_putc cur ts (by omega)⟩⟩
end

/-- a line as it lies: a slice of strings of the call's own -/
def LineV (w : World) (base : Nat) (p : Value × List ByteArray) : Prop := w.ownsRow base 9 1 p.1 p.2.length (p.2.map .string)
/-- lines as they lie: a slice of slices of strings -/
def Lined (w : World) (base : Nat) (v : Value) (Ls : List (List ByteArray)) : Prop :=
  ∃ zs : List (Value × List ByteArray), zs.map (·.2) = Ls ∧ w.ownsRow base 62 1 v zs.length (zs.map (·.1)) ∧ ∀ p ∈ zs, LineV w base p

section
variable {w w' : World} {base B : Nat} {v : Value} {Ls : List (List ByteArray)} {p : Value × List ByteArray}
theorem LineV.below (h : LineV w base p) (hb : Below B w w') (hB : w.heap.size ≤ B) : LineV w' base p := own_below h hb (fun g hg => Nat.lt_of_lt_of_le (own_block_lt h g hg) hB)
theorem LineV.base_ {b : Nat} (h : LineV w base p) (hb : b ≤ base) : LineV w b p := ownsRow_base h hb
/-- a row of lines is written: the lines stay -/
theorem LineV.row (h : LineV w base p) {b : Nat} {x : Value} {n : Nat} {xs : List Value} (hown : w.ownsRow b 62 1 x n xs) (hg : w.grownBy w' x.ownBlock) : LineV w' base p := by
  refine own_kept h hg (fun g hgx hp => ?_)
  rcases hown.2 with ⟨rfl, _⟩ | ⟨g1, cap, cur, rfl, _, hh, _⟩
  · cases hgx
  · have e1 : g1 = g := by simpa [Value.ownBlock] using hgx
    subst e1
    exact own_blk_ne h (g := g1) (t := 62) (cs := cur) hh (by decide) hp
theorem Lined.below (h : Lined w base v Ls) (hb : Below B w w') (hB : w.heap.size ≤ B) : Lined w' base v Ls := by
  obtain ⟨zs, h1, h2, h3⟩ := h
  exact ⟨zs, h1, own_below h2 hb (fun g hg => Nat.lt_of_lt_of_le (own_block_lt h2 g hg) hB), fun p hp => (h3 p hp).below hb hB⟩
theorem Lined.base_ {b : Nat} (h : Lined w base v Ls) (hb : b ≤ base) : Lined w b v Ls := by
  obtain ⟨zs, h1, h2, h3⟩ := h
  exact ⟨zs, h1, ownsRow_base h2 hb, fun p hp => (h3 p hp).base_ hb⟩
theorem Lined.nil (w : World) (base : Nat) : Lined w base (.slice none 0 0) [] := ⟨[], rfl, ownsRow_nil' _ _ _ _, fun p hp => by cases hp⟩
end

/-- a line's first ID as its order sees it -/
def fk (z : Value × List ByteArray) : List UInt8 := Rel.key (Rel.fst z.2)
/-- how two lines compare -/
def cmpL {zs : List (Value × List ByteArray)} (x y : {p // p ∈ zs}) : Int := Lib.compareBytes (fk x.1) (fk y.1)
section
variable {zs : List (Value × List ByteArray)}
theorem ltOf_cmpL (x y : {p // p ∈ zs}) : ltOf cmpL x y = decide (fk x.1 < fk y.1) := by
  unfold ltOf cmpL
  rw [Srt.less_cmp, bytesLess_eq]
theorem swo_cmpL : SWO (ltOf (cmpL (zs := zs))) where
  irrefl := fun x => by rw [ltOf_cmpL]; simp
  trans := fun x y z h1 h2 => by
    rw [ltOf_cmpL] at h1 h2 ⊢
    simp only [decide_eq_true_eq] at h1 h2 ⊢
    exact List.lt_trans h1 h2
  ntrans := fun x y z h1 h2 => by
    rw [ltOf_cmpL] at h1 h2 ⊢
    simp only [decide_eq_false_iff_not, List.not_lt] at h1 h2 ⊢
    exact List.le_trans h2 h1
end

/-- what the library's sort does to a row of lines -/
def SortsLines : Prop := ∀ (A : Option Addr) (n c base : Nat) (zs : List (Value × List ByteArray)) (w : World), w.ownsRow base 62 1 (.slice A n c) n (zs.map (·.1)) → zs.length = n → n ≤ 100000 → (∀ p ∈ zs, LineV w base p ∧ 0 < p.2.length) → (zs.map fk).Nodup → base ≤ w.heap.size →
  Calls Tryd.prog 69 #[.slice A n c, .func (.func 70) #[] #[]] w fun e w' => e = .returned (.tuple #[]) ∧ ∃ ts : List (Value × List ByteArray), w'.ownsRow base 62 1 (.slice A n c) n (ts.map (·.1)) ∧ ts.length = n ∧ (∀ p, p ∈ ts ↔ p ∈ zs) ∧ (∀ p ∈ ts, LineV w' base p) ∧ (ts.map (·.2)).Pairwise Rel.before ∧ Below base w w'

section
open Rel
/-- what has been gathered: the lines of the heads that are no longer to come -/
structure Gath (L : List Lk) (todo : ByteArray → Bool) (zs : List (Value × List ByteArray)) : Prop where
  sub : ∀ s, todo s = true → (forth L s).isSome = true
  line : ∀ p ∈ zs, p.2 = lineFrom L (fst p.2)
  nodup : (zs.map (fun p => fst p.2)).Nodup
  mem : ∀ s, s ∈ zs.map (fun p => fst p.2) ↔ (forth L s).isSome = true ∧ todo s = false ∧ back L s = none
variable {L : List Lk} {todo : ByteArray → Bool} {zs : List (Value × List ByteArray)}
theorem gath_start (L : List Lk) : Gath L (fun s => (forth L s).isSome) [] :=
  ⟨fun _ h => h, fun p hp => absurd hp (by simp), List.nodup_nil, fun s => ⟨fun h => absurd h (by simp), fun ⟨h1, h2, _⟩ => by rw [h1] at h2; cases h2⟩⟩
theorem gath_skip (h : Gath L todo zs) {s o : ByteArray} (hb : back L s = some o) : Gath L (fun t => todo t && !decide (t = s)) zs :=
  ⟨fun t ht => h.sub t (by simp only [Bool.and_eq_true] at ht; exact ht.1), h.line, h.nodup, fun t => (h.mem t).trans ⟨fun ⟨h1, h2, h3⟩ => ⟨h1, by simp [h2], h3⟩, fun ⟨h1, h2, h3⟩ => ⟨h1, by
    have hne : t ≠ s := fun e => by rw [e, hb] at h3; cases h3
    simpa [hne] using h2, h3⟩⟩⟩
theorem gath_add (h : Gath L todo zs) {s : ByteArray} {v : Value} (hb : back L s = none) (ht : todo s = true) : Gath L (fun t => todo t && !decide (t = s)) (zs ++ [(v, lineFrom L s)]) := by
  have hmap : (zs ++ [(v, lineFrom L s)]).map (fun p => fst p.2) = zs.map (fun p => fst p.2) ++ [s] := by
    rw [List.map_append]
    simp [fst_lineFrom]
  have hno : s ∉ zs.map (fun p => fst p.2) := fun hm => by
    have := ((h.mem s).1 hm).2.1
    rw [ht] at this; cases this
  refine ⟨fun t ht' => h.sub t (by simp only [Bool.and_eq_true] at ht'; exact ht'.1), fun p hp => ?_, ?_, fun t => ?_⟩
  · rcases List.mem_append.1 hp with hp | hp
    · exact h.line p hp
    · obtain rfl : p = (v, lineFrom L s) := by simpa using hp
      show lineFrom L s = lineFrom L (fst (lineFrom L s))
      rw [fst_lineFrom]
  · rw [hmap, List.nodup_append]
    exact ⟨h.nodup, by simp, fun a ha b hb' e => hno (by
      obtain rfl : b = s := by simpa using hb'
      rw [← e]; exact ha)⟩
  · rw [hmap, List.mem_append, h.mem t]
    constructor
    · rintro (⟨h1, h2, h3⟩ | h1)
      · exact ⟨h1, by simp [h2], h3⟩
      · obtain rfl : t = s := by simpa using h1
        exact ⟨h.sub t ht, by simp, hb⟩
    · rintro ⟨h1, h2, h3⟩
      by_cases e : t = s
      · exact .inr (by simp [e])
      · exact .inl ⟨h1, by simpa [e] using h2, h3⟩
theorem gath_len (u : Uniq L) (h : Gath L todo zs) : zs.length ≤ L.length := by
  have h1 := nodup_le _ (heads L) h.nodup (fun s hs => (mem_heads_forth u).2 ⟨((h.mem s).1 hs).1, ((h.mem s).1 hs).2.2⟩)
  have h2 := heads_len L
  rw [List.length_map] at h1
  omega
theorem gath_fk (h : Gath L todo zs) : (zs.map fk).Nodup := by
  have h1 := h.nodup
  rw [List.Nodup, List.pairwise_map] at h1 ⊢
  exact h1.imp fun hne e => hne (key_inj e)
theorem gath_pos (h : Gath L todo zs) {p : Value × List ByteArray} (hp : p ∈ zs) : 0 < p.2.length := by
  rw [h.line p hp]
  obtain ⟨t, ht⟩ := chain_cons L L.length (fst p.2)
  unfold lineFrom
  rw [ht]
  simp
theorem gath_end (u : Uniq L) (h : Gath L todo zs) (hd : ∀ s, todo s = false) {ts : List (Value × List ByteArray)} (hm : ∀ p, p ∈ ts ↔ p ∈ zs) (hs : (ts.map (·.2)).Pairwise before) : IsLines L (ts.map (·.2)) := by
  refine ⟨hs, fun l => ?_⟩
  rw [List.mem_map]
  constructor
  · rintro ⟨p, hp, rfl⟩
    have hp' := (hm p).1 hp
    have hx := (h.mem (fst p.2)).1 (List.mem_map.2 ⟨p, hp', rfl⟩)
    exact ⟨fst p.2, (mem_heads_forth u).2 ⟨hx.1, hx.2.2⟩, h.line p hp'⟩
  · rintro ⟨s, hsh, rfl⟩
    have hx := (mem_heads_forth u).1 hsh
    obtain ⟨p, hp, e⟩ := List.mem_map.1 ((h.mem s).2 ⟨hx.1, hd s, hx.2⟩)
    have e' : fst p.2 = s := e
    exact ⟨p, (hm p).2 hp, by rw [h.line p hp, e']⟩
end
end Go.Proofs.YtjgbadopladmdaaDoor
