/- The walks of the stable sort of attributes: strings.Compare, the closure, insertion. -/
import Derived.Test.YtjgbadopladmdaaDoorRelW
import Derived.Test.YtjgbadopladmdaaDoorSrtP
import Derived.Test.YtjgbadopladmdaaDoorEach
import Derived.Deep.RegionHeld3
import Derived.Deep.DrawnRows
import Derived.Lib.Bytealg
import Derived.Lib.Walk
namespace Go.Proofs.YtjgbadopladmdaaDoor
open Go.RowKit
open Rel (Lk)

set_option maxHeartbeats 1000000 in
set_option maxRecDepth 100000 in
theorem cmpstr_any (a b : ByteArray) (w : World) : Calls Tryd.prog 76 #[.string a, .string b] w fun e w' => e = .returned (.int .i64 (Lib.compareBytes a.data.toList b.data.toList)) ∧ w = w' := by
  go_enter Tryd.func76, Tryd.ntmps76
  go_wp2
  rw [run_callFunc_extern Tryd.func93 (by kernel_rfl) (by kernel_rfl) (e := Extern.BytealgCompare.compare) (by kernel_rfl), Lib.run_compareString]
  simp only [Result.andThen]
  rw [Oper.upon_value]
  go_wp2
  go_ret
  exact ⟨rfl, rfl⟩
  case he => kernel_rfl
theorem compare_any (a b : ByteArray) (w : World) : Calls Tryd.prog 56 #[.string a, .string b] w fun e w' => e = .returned (.int .i64 (Lib.compareBytes a.data.toList b.data.toList)) ∧ w = w' := by
  go_enter Tryd.func56, Tryd.ntmps56
  go_wp2_with (go_at_call 76; refine (cmpstr_any _ _ _).mono ?_; rintro e w' ⟨rfl, rfl⟩)
  go_ret
  exact ⟨rfl, rfl⟩

/-- what a comparison hands back: a number below 0 just if the first comes before -/
def Cmpd (w : World) (b : Bool) (e : Ending) (w' : World) : Prop := ∃ z : Int, e = .returned (.int .i64 z) ∧ decide (z < 0) = b ∧ Below w.heap.size w w'

set_option maxHeartbeats 400000 in
theorem cmp_any (a b : Lk) (w : World) : Calls Tryd.prog 55 #[.agg #[.string a.1, .string a.2], .agg #[.string b.1, .string b.2]] w (Cmpd w (Srt.lt a b)) := by
  obtain ⟨a1, a2⟩ := a
  obtain ⟨b1, b2⟩ := b
  go_enter Tryd.func55, Tryd.ntmps55
  go_wp2_with (go_at_call 56; refine (compare_any _ _ _).mono ?_; rintro e w' ⟨rfl, rfl⟩)
  go_ret
  exact ⟨_, rfl, by rw [Srt.less_cmp]; unfold Srt.lt; rw [Lib.toList_data, Lib.toList_data], ((Below.refl _ _).alloc (Nat.le_refl _) _).alloc (by simp) _⟩

/-- a row of records in block b, that may be written -/
structure RowB (w : World) (b : Nat) (L : List Lk) : Prop where
  ty : ∃ cs, Blk w b 57 cs
  cell : ∀ k r, L[k]? = some r → w.cell? ⟨b, k * 2, none⟩ = some (.string r.1) ∧ w.cell? ⟨b, k * 2 + 1, none⟩ = some (.string r.2)
section
variable {w w' : World} {b : Nat} {L : List Lk}
theorem RowB.lt (h : RowB w b L) : b < w.heap.size := let ⟨_, h⟩ := h.ty; h.lt
theorem RowB.free (h : RowB w b L) (i : Nat) : w.frozen? ⟨b, i, none⟩ = false := let ⟨_, h⟩ := h.ty; h.frozen i
theorem RowB.ne_ (h : RowB w b L) {b' : Nat} {t : TypeId} {cs : Array Value} (h' : Blk w b' t cs) (ht : 57 ≠ t) : b ≠ b' := let ⟨_, h⟩ := h.ty; h.ne_ h' ht
theorem RowB.keep (h : RowB w b L) (hb : w'.heap[b]? = w.heap[b]?) : RowB w' b L :=
  ⟨let ⟨cs, h⟩ := h.ty; ⟨cs, hb.trans h⟩, fun k r hr => ⟨(World.cell?_of_block hb).trans (h.cell k r hr).1, (World.cell?_of_block hb).trans (h.cell k r hr).2⟩⟩
theorem RowB.below (h : RowB w b L) (hb : Below w.heap.size w w') : RowB w' b L := h.keep (hb.block b h.lt)
theorem RowB.grown (h : RowB w b L) {row : Option Nat} (hg : w.grownBy w' row) (hne : some b ≠ row) : RowB w' b L := h.keep (hg.block b h.lt hne)
theorem RowB.drewN (h : RowB w b L) (n : Nat) : RowB (w.drewN n) b L := ⟨h.ty, h.cell⟩
theorem RowB.drew (h : RowB w b L) : RowB w.drew b L := ⟨h.ty, h.cell⟩
theorem RowB.far (h : RowB w b L) {p : Addr} (hp : b ≠ p.block) (u : Value) : RowB (w.setCell p u) b L := h.keep (Below.heap_setCell w p u b hp)
/-- an element written, cell by cell -/
theorem RowB.set_ (h : RowB w b L) {k : Nat} (hk : k < L.length) (x : Lk) : RowB ((w.setCell ⟨b, k * 2, none⟩ (.string x.1)).setCell ⟨b, k * 2 + 1, none⟩ (.string x.2)) b (L.set k x) := by
  have hc0 := (h.cell k _ (List.getElem?_eq_getElem hk)).1
  have hc1 := (h.cell k _ (List.getElem?_eq_getElem hk)).2
  have hne : ∀ i j : Nat, i ≠ j → (⟨b, i, none⟩ : Addr) ≠ ⟨b, j, none⟩ := fun i j hij e => hij (by injection e)
  have hc1' : (w.setCell ⟨b, k * 2, none⟩ (.string x.1)).cell? ⟨b, k * 2 + 1, none⟩ = some (.string L[k].2) := (World.cell?_setCell_other w _ _ _ (hne _ _ (by omega))).trans hc1
  refine ⟨let ⟨_, h⟩ := h.ty; ⟨_, (h.set_ _ _).set_ _ _⟩, fun i r hr => ?_⟩
  by_cases hik : k = i
  · subst hik
    rw [List.getElem?_set_self hk] at hr
    obtain rfl := Option.some.inj hr
    refine ⟨?_, World.cell?_setCell_same _ _ _ hc1'⟩
    rw [World.cell?_setCell_other _ _ _ _ (hne _ _ (by omega))]
    exact World.cell?_setCell_same _ _ _ hc0
  · rw [List.getElem?_set_ne hik] at hr
    have := h.cell i r hr
    refine ⟨?_, ?_⟩
    · rw [World.cell?_setCell_other _ _ _ _ (hne _ _ (by omega)), World.cell?_setCell_other _ _ _ _ (hne _ _ (by omega))]; exact this.1
    · rw [World.cell?_setCell_other _ _ _ _ (hne _ _ (by omega)), World.cell?_setCell_other _ _ _ _ (hne _ _ (by omega))]; exact this.2
/-- one cell of an element written -/
theorem RowB.set1 (h : RowB w b L) {k : Nat} {r : Lk} (hr : L[k]? = some r) (x : ByteArray) : RowB (w.setCell ⟨b, k * 2, none⟩ (.string x)) b (L.set k (x, r.2)) := by
  obtain ⟨hk, rfl⟩ := List.getElem?_eq_some_iff.1 hr
  have hc := h.cell k _ (List.getElem?_eq_getElem hk)
  have hne : ∀ i j : Nat, i ≠ j → (⟨b, i, none⟩ : Addr) ≠ ⟨b, j, none⟩ := fun i j hij e => hij (by injection e)
  refine ⟨let ⟨_, h⟩ := h.ty; ⟨_, h.set_ _ _⟩, fun i r hr => ?_⟩
  by_cases hik : k = i
  · subst hik
    rw [List.getElem?_set_self hk] at hr
    obtain rfl := Option.some.inj hr
    exact ⟨World.cell?_setCell_same _ _ _ hc.1, (World.cell?_setCell_other _ _ _ _ (hne _ _ (by omega))).trans hc.2⟩
  · rw [List.getElem?_set_ne hik] at hr
    have := h.cell i r hr
    exact ⟨(World.cell?_setCell_other _ _ _ _ (hne _ _ (by omega))).trans this.1, (World.cell?_setCell_other _ _ _ _ (hne _ _ (by omega))).trans this.2⟩
theorem RowB.set2 (h : RowB w b L) {k : Nat} {r : Lk} (hr : L[k]? = some r) (x : ByteArray) : RowB (w.setCell ⟨b, k * 2 + 1, none⟩ (.string x)) b (L.set k (r.1, x)) := by
  obtain ⟨hk, rfl⟩ := List.getElem?_eq_some_iff.1 hr
  have hc := h.cell k _ (List.getElem?_eq_getElem hk)
  have hne : ∀ i j : Nat, i ≠ j → (⟨b, i, none⟩ : Addr) ≠ ⟨b, j, none⟩ := fun i j hij e => hij (by injection e)
  refine ⟨let ⟨_, h⟩ := h.ty; ⟨_, h.set_ _ _⟩, fun i r hr => ?_⟩
  by_cases hik : k = i
  · subst hik
    rw [List.getElem?_set_self hk] at hr
    obtain rfl := Option.some.inj hr
    exact ⟨(World.cell?_setCell_other _ _ _ _ (hne _ _ (by omega))).trans hc.1, World.cell?_setCell_same _ _ _ hc.2⟩
  · rw [List.getElem?_set_ne hik] at hr
    have := h.cell i r hr
    exact ⟨(World.cell?_setCell_other _ _ _ _ (hne _ _ (by omega))).trans this.1, (World.cell?_setCell_other _ _ _ _ (hne _ _ (by omega))).trans this.2⟩
end
/-- .. its block made since w0 -/
structure RowH (w0 w : World) (b : Nat) (L : List Lk) : Prop where
  ge : w0.heap.size ≤ b
  row : RowB w b L
section
variable {w0 w w' : World} {b g : Nat} {L : List Lk}
theorem RowH.below (h : RowH w0 w b L) (hb : Below w.heap.size w w') : RowH w0 w' b L := ⟨h.ge, h.row.below hb⟩
theorem RowH.alloc (h : RowH w0 w b L) (o : Obj) : RowH w0 (w.alloc o) b L := h.below ((Below.refl _ _).alloc (Nat.le_refl _) o)
theorem RowH.drew (h : RowH w0 w b L) : RowH w0 w.drew b L := ⟨h.ge, h.row.drew⟩
theorem RowH.grown (h : RowH w0 w b L) (hg : w.grownBy w' (some g)) (hlt : g < w0.heap.size) : RowH w0 w' b L := ⟨h.ge, h.row.grown hg (fun e => by have := Option.some.inj e; have := h.ge; omega)⟩
theorem RowH.far (h : RowH w0 w b L) {p : Addr} (hp : b ≠ p.block) (u : Value) : RowH w0 (w.setCell p u) b L := ⟨h.ge, h.row.far hp u⟩
theorem RowH.of_eq {L' : List Lk} (h : RowH w0 w b L) (e : L = L') : RowH w0 w b L' := e ▸ h
end
/-- a slice of n records from base on, that may be written -/
structure RowL (w : World) (base : Nat) (A : Option Addr) (n : Nat) (L : List Lk) : Prop where
  len : L.length = n
  at_ : 0 < n → ∃ b, A = some ⟨b, 0, none⟩ ∧ base ≤ b ∧ RowB w b L
theorem flat_lc (L : List Lk) (k : Nat) (r : Lk) (h : L[k]? = some r) : (L.flatMap lc)[k * 2]? = some (.string r.1) ∧ (L.flatMap lc)[k * 2 + 1]? = some (.string r.2) := flat_get L k r h
theorem RowL.of_own {w : World} {base n c : Nat} {A : Option Addr} {e : TypeId} {L : List Lk} (h : w.ownsRow base e 2 (.slice A n c) n (L.flatMap lc)) (hl : L.length = n) (he : e = 57) : RowL w base A n L := by
  refine ⟨hl, fun hn => ?_⟩
  rcases h.2 with ⟨h0, _⟩ | ⟨g, cap, cur, hv, hb, hh, _⟩
  · injection h0 with _ h0 _
    omega
  · have hA : A = some ⟨g, 0, none⟩ := by injection hv
    subst hA
    refine ⟨g, rfl, hb, ⟨cur, he ▸ hh⟩, fun k r hr => ?_⟩
    have h2 := flat_get L k r hr
    have hc := h.cells (g := g) rfl
    have ha : ∀ i : Nat, (⟨g, 0, none⟩ : Addr).add i = ⟨g, i, none⟩ := fun i => by unfold Addr.add; split <;> simp_all
    have c0 := hc _ _ h2.1
    have c1 := hc _ _ h2.2
    rw [ha] at c0 c1
    exact ⟨c0, c1⟩
theorem RowL.keep {w w' : World} {base n B : Nat} {A : Option Addr} {L : List Lk} (h : RowL w base A n L) (hb : Below B w w') (hB : w.heap.size ≤ B) : RowL w' base A n L :=
  ⟨h.len, fun hn => let ⟨b, e, hge, hr⟩ := h.at_ hn; ⟨b, e, hge, hr.keep (hb.block b (Nat.lt_of_lt_of_le hr.lt hB))⟩⟩
theorem RowL.far {w : World} {base n : Nat} {A : Option Addr} {L : List Lk} (h : RowL w base A n L) {p : Addr} (hp : p.block < base) (u : Value) : RowL (w.setCell p u) base A n L :=
  ⟨h.len, fun hn => let ⟨b, e, hge, hr⟩ := h.at_ hn; ⟨b, e, hge, hr.keep (Below.heap_setCell w p u b (by omega))⟩⟩
theorem RowL.base_ {w : World} {base base' n : Nat} {A : Option Addr} {L : List Lk} (h : RowL w base A n L) (hb : base' ≤ base) : RowL w base' A n L :=
  ⟨h.len, fun hn => let ⟨b, e, hge, hr⟩ := h.at_ hn; ⟨b, e, Nat.le_trans hb hge, hr⟩⟩
theorem RowL.below {w w' : World} {base n : Nat} {A : Option Addr} {L : List Lk} (h : RowL w base A n L) (hb : Below w.heap.size w w') : RowL w' base A n L := h.keep hb (Nat.le_refl _)
theorem RowL.alloc {w : World} {base n : Nat} {A : Option Addr} {L : List Lk} (h : RowL w base A n L) (o : Obj) : RowL (w.alloc o) base A n L := h.below ((Below.refl _ _).alloc (Nat.le_refl _) o)
theorem RowL.farne {w : World} {base n : Nat} {A : Option Addr} {L : List Lk} (h : RowL w base A n L) {p : Addr} (hp : ∀ b, A = some ⟨b, 0, none⟩ → b ≠ p.block) (u : Value) : RowL (w.setCell p u) base A n L :=
  ⟨h.len, fun hn => let ⟨b, e, hge, hr⟩ := h.at_ hn; ⟨b, e, hge, hr.far (hp b e) u⟩⟩
theorem RowL.ne_ {w : World} {base n : Nat} {A : Option Addr} {L : List Lk} (h : RowL w base A n L) (hn : 0 < n) {b' : Nat} {t : TypeId} {cs : Array Value} (h' : Blk w b' t cs) (ht : 57 ≠ t) : ∀ b, A = some ⟨b, 0, none⟩ → b ≠ b' := fun b e => by
  obtain ⟨b2, e2, _, hr⟩ := h.at_ hn
  rw [e] at e2
  injection e2 with e2
  injection e2 with e2
  subst e2
  exact hr.ne_ h' ht
/-- .. read -/
theorem RowL.recs {w : World} {base n : Nat} {A : Option Addr} {L : List Lk} (h : RowL w base A n L) (hn : n ≤ 1000000) : Recs lc 2 w w.heap.size A n L := by
  refine ⟨⟨by rw [flat_len (f := lc) (s := 2) (fun _ => rfl), h.len], fun h0 => ?_⟩, h.len.symm, hn⟩
  obtain ⟨b, rfl, _, hr⟩ := h.at_ h0
  refine ⟨_, rfl, hr.lt, fun j u hu => ?_⟩
  have ha : ∀ i : Nat, (⟨b, 0, none⟩ : Addr).add i = ⟨b, i, none⟩ := fun i => by unfold Addr.add; split <;> simp_all
  rw [ha]
  have hj : j < (L.flatMap lc).length := (List.getElem?_eq_some_iff.1 hu).1
  rw [flat_len (f := lc) (s := 2) (fun _ => rfl)] at hj
  have hk : L[j / 2]? = some (L[j / 2]'(by omega)) := List.getElem?_eq_getElem _
  have h2 := flat_get L _ _ hk
  have h3 := hr.cell _ _ hk
  rcases Nat.mod_two_eq_zero_or_one j with e | e
  · have hj2 : j = j / 2 * 2 := by omega
    rw [hj2] at hu ⊢
    rw [h3.1]
    exact h2.1.symm.trans hu
  · have hj2 : j = j / 2 * 2 + 1 := by omega
    rw [hj2] at hu ⊢
    rw [h3.2]
    exact h2.2.symm.trans hu
end Go.Proofs.YtjgbadopladmdaaDoor
