/- Slices of structs of one-cell fields, as lists of records. -/
import Derived.Test.YtjgbadopladmdaaDoorProg
import Derived.Test.YtjgbadopladmdaaDoorMem
namespace Go.Proofs.YtjgbadopladmdaaDoor
open Go.RowKit

theorem add_next (ad : Addr) (k j : Nat) (hj : 0 < j) : ad.add (k + j) = ⟨(ad.add k).block, (ad.add k).off + j, none⟩ := by
  unfold Addr.add
  rw [if_neg (by omega)]
  by_cases hk : k = 0
  · subst hk; simp
  · rw [if_neg hk]; simp [Nat.add_assoc]

section
variable {α : Type} {f : α → List Value} {s : Nat}
theorem flat_len (hf : ∀ a, (f a).length = s) : ∀ L : List α, (L.flatMap f).length = L.length * s
  | [] => by simp
  | a :: L => by rw [List.flatMap_cons, List.length_append, flat_len hf L, hf a, List.length_cons, Nat.succ_mul]; omega
theorem flat_at (hf : ∀ a, (f a).length = s) : ∀ (L : List α) (k : Nat) (a : α) (j : Nat), L[k]? = some a → j < s → (L.flatMap f)[k * s + j]? = (f a)[j]?
  | [], k, a, j, h, _ => by simp at h
  | b :: L, 0, a, j, h, hj => by
    obtain rfl : b = a := by simpa using h
    rw [List.flatMap_cons, Nat.zero_mul, Nat.zero_add, List.getElem?_append_left (by rw [hf]; exact hj)]
  | b :: L, k + 1, a, j, h, hj => by
    have := flat_at hf L k a j (by simpa using h) hj
    rw [List.flatMap_cons, show (k + 1) * s + j = (f b).length + (k * s + j) by rw [hf, Nat.succ_mul]; omega, List.getElem?_append_right (by omega)]
    simpa using this

/-- a slice of n records that reads as L, below block B -/
structure Recs (f : α → List Value) (s : Nat) (w : World) (B : Nat) (A : Option Addr) (n : Nat) (L : List α) : Prop where
  reads : Reads w B s A n (L.flatMap f)
  len : n = L.length
  small : n ≤ 1000000

variable {w w' : World} {B B' n : Nat} {A : Option Addr} {L : List α}
theorem Recs.keep (h : Recs f s w B A n L) (hk : ∀ p : Addr, p.block < B → w'.cell? p = w.cell? p) : Recs f s w' B A n L := ⟨h.reads.keep hk, h.len, h.small⟩
theorem Recs.below (h : Recs f s w B A n L) (hb : Below B w w') : Recs f s w' B A n L := h.keep fun _ hp => hb.cell hp
theorem Recs.more (h : Recs f s w B A n L) (hb : B ≤ B') : Recs f s w B' A n L := ⟨h.reads.more hb, h.len, h.small⟩
theorem Recs.at_ (hf : ∀ a, (f a).length = s) (hs : 0 < s) (h : Recs f s w B A n L) {k : Nat} (hk : k < n) :
    ∃ (ad : Addr) (a : α), A = some ad ∧ ad.block < B ∧ L[k]? = some a ∧ w.cell? (ad.add (k * s)) = (f a)[0]? ∧ ∀ j, 0 < j → j < s → w.cell? ⟨(ad.add (k * s)).block, (ad.add (k * s)).off + j, none⟩ = (f a)[j]? := by
  obtain ⟨ad, e, hb, hc⟩ := h.reads.2 (by omega)
  have hl := h.len
  have hr : L[k]? = some (L[k]'(by omega)) := List.getElem?_eq_getElem (by omega)
  have key : ∀ j, j < s → w.cell? (ad.add (k * s + j)) = (f (L[k]'(by omega)))[j]? := fun j hj => by
    have h1 := flat_at hf L k _ j hr hj
    have h2 : (f (L[k]'(by omega)))[j]? = some ((f (L[k]'(by omega)))[j]'(by rw [hf]; exact hj)) := List.getElem?_eq_getElem _
    rw [h2] at h1 ⊢
    exact hc _ _ h1
  refine ⟨ad, _, e, hb, hr, ?_, fun j h0 hj => ?_⟩
  · exact key 0 hs
  · rw [← add_next ad (k * s) j h0]; exact key j hj
theorem Recs.of_own {base : Nat} {e : TypeId} {c : Nat} (h : w.ownsRow base e s (.slice A n c) n (L.flatMap f)) (hl : n = L.length) (hn : n ≤ 1000000) : Recs f s w w.heap.size A n L := ⟨Reads.of_own h, hl, hn⟩
theorem Recs.cut (hf : ∀ a, (f a).length = s) (h : Recs f s w B A n L) (k : Nat) (hk : k ≤ n) : Recs f s w B A k (L.take k) := by
  have hl := h.len
  refine ⟨⟨?_, fun h0 => ?_⟩, by rw [List.length_take]; omega, by have := h.small; omega⟩
  · rw [flat_len hf, List.length_take, Nat.min_eq_left (by omega)]
  · obtain ⟨ad, e, hb, hc⟩ := h.reads.2 (by omega)
    refine ⟨ad, e, hb, fun j u hu => hc j u ?_⟩
    rw [← List.take_append_drop k L, List.flatMap_append, List.getElem?_append_left ((List.getElem?_eq_some_iff.1 hu).1)]
    exact hu
end

/-- a sale row: outlet, product, period, units, turnover -/
structure Rw where
  o : ByteArray
  p : ByteArray
  a : Int
  b : Int
  c : Int
def rc (r : Rw) : List Value := [.string r.o, .string r.p, .int .i64 r.a, .int .i64 r.b, .int .i64 r.c]
theorem rc_len (r : Rw) : (rc r).length = 5 := rfl

theorem ownsRow_base {w : World} {base base' : Nat} {e : TypeId} {size n : Nat} {v : Value} {xs : List Value} (h : w.ownsRow base e size v n xs) (hb : base' ≤ base) : w.ownsRow base' e size v n xs := by
  refine ⟨h.1, ?_⟩
  rcases h.2 with h0 | ⟨g, cap, cur, rfl, hbase, r⟩
  · exact .inl h0
  · exact .inr ⟨g, cap, cur, rfl, Nat.le_trans hb hbase, r⟩
theorem ownsRow_nil' (w : World) (base : Nat) (e : TypeId) (size : Nat) : w.ownsRow base e size (.slice none 0 0) 0 [] := ⟨by simp, .inl ⟨rfl, rfl⟩⟩
end Go.Proofs.YtjgbadopladmdaaDoor
