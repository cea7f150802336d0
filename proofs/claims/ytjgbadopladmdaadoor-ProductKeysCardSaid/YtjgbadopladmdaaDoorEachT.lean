/- Words for the walks by wp_region_each: blocks that the region made, the tape. -/
import Derived.Test.YtjgbadopladmdaaDoorEach
import Derived.Test.YtjgbadopladmdaaDoorTapeV
import Derived.Test.YtjgbadopladmdaaDoorRelW
namespace Go.Proofs.YtjgbadopladmdaaDoor
open Go.RowKit

/-- a block made since w0 -/
structure Has (w0 w : World) (b : Nat) (t : TypeId) (cs : Array Value) : Prop where
  ge : w0.heap.size ≤ b
  blk : Blk w b t cs
/-- the tape, and that nothing else of w0 has been written -/
structure Tap (w0 w : World) (B g n : Nat) : Prop where
  tape : Tape w B g n
  grow : w0.grownBy w (some g)
  lt : g < w0.heap.size
section
variable {w0 w w' : World} {b g B n : Nat} {t : TypeId} {cs : Array Value}
theorem Has.below (h : Has w0 w b t cs) (hb : Below w.heap.size w w') : Has w0 w' b t cs := ⟨h.ge, h.blk.below hb h.blk.lt⟩
theorem Has.alloc (h : Has w0 w b t cs) (o : Obj) : Has w0 (w.alloc o) b t cs := ⟨h.ge, h.blk.alloc o⟩
theorem Has.drew (h : Has w0 w b t cs) : Has w0 w.drew b t cs := ⟨h.ge, h.blk⟩
theorem Has.grown (h : Has w0 w b t cs) (hg : w.grownBy w' (some g)) (hlt : g < w0.heap.size) : Has w0 w' b t cs := ⟨h.ge, h.blk.grown hg (fun e => by have := Option.some.inj e; have := h.ge; omega)⟩
theorem Has.far (h : Has w0 w b t cs) {p : Addr} (hp : p.block ≠ b) (u : Value) : Has w0 (w.setCell p u) b t cs := ⟨h.ge, h.blk.far (fun e => hp e.symm) u⟩
theorem Has.set_ (h : Has w0 w b t cs) (i : Nat) (u : Value) : Has w0 (w.setCell ⟨b, i, none⟩ u) b t (cs.setIfInBounds i u) := ⟨h.ge, h.blk.set_ i u⟩
theorem Has.new (hz : w0.heap.size ≤ w.heap.size) (t : TypeId) (cs : Array Value) : Has w0 (w.alloc (.cells cs t)) w.heap.size t cs := ⟨hz, Blk.new w t cs⟩
theorem Has.cell (h : Has w0 w b t cs) (i : Nat) : w.cell? ⟨b, i, none⟩ = cs[i]? := h.blk.cell i
theorem Has.frozen (h : Has w0 w b t cs) (i : Nat) : w.frozen? ⟨b, i, none⟩ = false := h.blk.frozen i
theorem Has.of_eq {cs' : Array Value} (h : Has w0 w b t cs) (e : cs = cs') : Has w0 w b t cs' := e ▸ h
/-- nothing that w0 has has been written -/
structure Low (w0 w : World) : Prop where
  b : Below w0.heap.size w0 w
theorem Low.below (h : Low w0 w) (hb : Below w.heap.size w w') : Low w0 w' := ⟨h.b.trans (hb.mono h.b.size)⟩
theorem Low.alloc (h : Low w0 w) (o : Obj) : Low w0 (w.alloc o) := ⟨h.b.alloc h.b.size o⟩
theorem Low.mk_ (w0 : World) : Low w0 w0.drew := ⟨(Below.refl _ w0).drew⟩
theorem Low.far (h : Low w0 w) {p : Addr} (hp : w0.heap.size ≤ p.block) (u : Value) : Low w0 (w.setCell p u) := ⟨h.b.setCell hp u⟩
theorem Low.size (h : Low w0 w) : w0.heap.size ≤ w.heap.size := h.b.size
/-- an own row -/
structure Owns (w : World) (base : Nat) (e : TypeId) (size : Nat) (v : Value) (n : Nat) (xs : List Value) : Prop where
  o : w.ownsRow base e size v n xs
theorem Owns.alloc {base size n : Nat} {e : TypeId} {v : Value} {xs : List Value} (h : Owns w base e size v n xs) (x : Obj) : Owns (w.alloc x) base e size v n xs := ⟨h.o.alloc x⟩
theorem Owns.below {base size n : Nat} {e : TypeId} {v : Value} {xs : List Value} (h : Owns w base e size v n xs) (hb : Below w.heap.size w w') : Owns w' base e size v n xs := ⟨own_below h.o hb (own_block_lt h.o)⟩
theorem Owns.far {base size n : Nat} {e : TypeId} {v : Value} {xs : List Value} (h : Owns w base e size v n xs) {p : Addr} (hne : v.ownBlock ≠ some p.block) (u : Value) : Owns (w.setCell p u) base e size v n xs :=
  ⟨own_kept h.o (only_setCell (World.grownBy.refl w _) (.inl rfl) u) (fun g hg => by obtain rfl := Option.some.inj hg; exact hne)⟩
theorem Owns.drew {base size n : Nat} {e : TypeId} {v : Value} {xs : List Value} (h : Owns w base e size v n xs) : Owns w.drew base e size v n xs := ⟨h.o⟩
theorem Has.grownrow (h : Has w0 w b t cs) {row : Option Nat} (hg : w.grownBy w' row) (hne : some b ≠ row) : Has w0 w' b t cs := ⟨h.ge, h.blk.grown hg hne⟩
theorem Low.drew (h : Low w0 w) : Low w0 w.drew := ⟨h.b.drew⟩
theorem Low.grownrow (h : Low w0 w) {row : Option Nat} (hg : w.grownBy w' row) (hr : ∀ x, row = some x → w0.heap.size ≤ x) : Low w0 w' := ⟨h.b.grown hg h.b.size hr⟩
theorem Tap.mk_ (h : Tape w0 B g n) : Tap w0 w0.drew B g n := ⟨h, only_drew (World.grownBy.refl w0 _), h.lt⟩
theorem Tap.drew (h : Tap w0 w B g n) : Tap w0 w.drew B g n := ⟨h.tape, only_drew h.grow, h.lt⟩
theorem Tap.below (h : Tap w0 w B g n) (hb : Below w.heap.size w w') : Tap w0 w' B g n := ⟨h.tape.below hb h.tape.lt, h.grow.trans (only_of_below hb _), h.lt⟩
theorem Tap.alloc (h : Tap w0 w B g n) (o : Obj) : Tap w0 (w.alloc o) B g n := ⟨h.tape.alloc o, only_alloc h.grow o, h.lt⟩
theorem Tap.next {m : Nat} (h : Tap w0 w B g n) (hg : w.grownBy w' (some g)) (ht : Tape w' B g m) : Tap w0 w' B g m := ⟨ht, h.grow.trans hg, h.lt⟩
theorem Tap.size (h : Tap w0 w B g n) : w0.heap.size ≤ w.heap.size := h.grow.size
theorem Tap.of_eq {m : Nat} (h : Tap w0 w B g n) (e : n = m) : Tap w0 w B g m := e ▸ h
theorem Tap.far (h : Tap w0 w B g n) {p : Addr} (hp : w0.heap.size ≤ p.block) (u : Value) : Tap w0 (w.setCell p u) B g n :=
  ⟨h.tape.setCell (by have := h.lt; omega) (by have := h.lt; have := h.tape.base; omega) u, only_setCell h.grow (.inr hp) u, h.lt⟩
end

/-- a product without its attributes -/
structure Pr where
  id : ByteArray
  cd : ByteArray
  br : ByteArray
  d : Int
  n : Int
  a : Int
/-- a product's cells, its attributes' slice being s -/
def pv (p : Pr) (s : Value) : Array Value := #[.string p.id, .string p.cd, .string p.br, .int .i64 p.d, .int .i64 p.n, .int .i64 p.a, s]
def codeS (u : Nat) : ByteArray := if u = 0 then ⟨#[48, 49, 46, 49]⟩ else ⟨#[48, 49, 46, 50]⟩
def powS (u : Nat) : ByteArray := if u = 0 then ⟨#[49]⟩ else if u = 1 then ⟨#[50]⟩ else if u = 2 then ⟨#[50, 46, 53]⟩ else ⟨#[52]⟩
def colS (u : Nat) : ByteArray := if u = 0 then ⟨#[114, 101, 100]⟩ else if u = 1 then ⟨#[98, 108, 117, 101]⟩ else ⟨#[103, 114, 101, 101, 110]⟩
def powN : ByteArray := ⟨#[112, 111, 119, 101, 114]⟩
def colN : ByteArray := ⟨#[99, 111, 108, 111, 117, 114]⟩
/-- the attributes of a made item -/
def itemL (x y : Nat) (sw : Bool) : List Rel.Lk := if sw then [(colN, colS y), (powN, powS x)] else [(powN, powS x), (colN, colS y)]
def itemP (k : Int) (u v : Nat) : Pr := ⟨idS k, codeS u, ⟨#[97, 99, 109, 101]⟩, 1, 1, 400000 + 50000 * (v : Int)⟩
end Go.Proofs.YtjgbadopladmdaaDoor
