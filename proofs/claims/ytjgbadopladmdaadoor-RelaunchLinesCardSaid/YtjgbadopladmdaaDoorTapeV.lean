/- The walks of the tape's makers: Outlet, Product, Row, Rows. -/
import Derived.Test.YtjgbadopladmdaaDoorIdW
import Derived.Test.YtjgbadopladmdaaDoorRecW
namespace Go.Proofs.YtjgbadopladmdaaDoor
open Go.RowKit

theorem Tape.lt {w : World} {B g j : Nat} (h : Tape w B g j) : g < w.heap.size := by
  obtain ⟨A, n, c, k, zs, hb, _⟩ := h
  exact hb.lt
theorem Tape.base {w : World} {B g j : Nat} (h : Tape w B g j) : B ≤ g := by
  obtain ⟨A, n, c, k, zs, _, _, _, hB, _⟩ := h
  exact hB
theorem Tape.far {w w' : World} {B g j : Nat} (h : Tape w B g j) {row : Option Nat} (hg : w.grownBy w' row) (hne : row ≠ some g) (hr : ∀ x, row = some x → B ≤ x) : Tape w' B g j := by
  have hlt := h.lt
  obtain ⟨A, n, c, k, zs, hb, hk, hrd, hB, hn⟩ := h
  exact ⟨A, n, c, k, zs, hb.grown hg (fun e => hne e.symm), hk, hrd.grown hg (by omega) hr, hB, hn⟩
theorem Tape.alloc {w : World} {B g j : Nat} (h : Tape w B g j) (o : Obj) : Tape (w.alloc o) B g j := h.far (World.grownBy_alloc w o none) (by simp) (fun _ h => by cases h)
theorem Tape.below {w w' : World} {B g j C : Nat} (h : Tape w B g j) (hb : Below C w w') (hC : g < C) : Tape w' B g j := by
  obtain ⟨A, n, c, k, zs, hbk, hk, hrd, hB, hn⟩ := h
  exact ⟨A, n, c, k, zs, hbk.below hb hC, hk, hrd.keep (fun p hp => hb.cell (by omega)), hB, hn⟩
theorem Tape.more {w : World} {B g j j' : Nat} (h : Tape w B g j) (hj : j ≤ j') : Tape w B g j' := by
  obtain ⟨A, n, c, k, zs, hbk, hk, hrd, hB, hn⟩ := h
  exact ⟨A, n, c, k, zs, hbk, by omega, hrd, hB, hn⟩

theorem Tape.setCell {w : World} {B g j : Nat} (h : Tape w B g j) {p : Addr} (hne : p.block ≠ g) (hB : B ≤ p.block) (u : Value) : Tape (w.setCell p u) B g j := by
  obtain ⟨A, n, c, k, zs, hb, hk, hrd, hB', hn⟩ := h
  exact ⟨A, n, c, k, zs, hb.far (fun e => hne e.symm) u, hk, hrd.setCell hB u, hB', hn⟩
theorem grown_alloc {w w' : World} {g : Nat} {o : Obj} (h : (w.alloc o).grownBy w' (some g)) : w.grownBy w' (some g) := (World.grownBy_alloc w o _).trans h
theorem grown_cell {w w' : World} {g b : Nat} (h : w.grownBy w' (some g)) (hb : b < w.heap.size) (hne : b ≠ g) (i : Nat) : w'.cell? ⟨b, i, none⟩ = w.cell? ⟨b, i, none⟩ :=
  World.cell?_of_block (h.block b hb (fun e => hne (Option.some.inj e)))
theorem grown_below {w w' : World} {g : Nat} (h : w.grownBy w' (some g)) {C : Nat} (hC : C ≤ g) (hz : C ≤ w.heap.size) : Below C w w' := (Below.refl C w).grown h hz (fun x hx => by cases hx; exact hC)

/-- a maker of a short string -/
def MadeS (w : World) (B g j : Nat) (e : Ending) (w' : World) : Prop :=
  ∃ s : ByteArray, e = .returned (.string s) ∧ s.size ≤ 8 ∧ Tape w' B g (j + 1) ∧ w.grownBy w' (some g)

set_option maxHeartbeats 1000000 in
theorem outlet_any (g j B : Nat) (w : World) (ht : Tape w B g j) (hj : j ≤ 100000) :
    Calls Tryd.prog 73 #[.pointer (some ⟨g, 0, none⟩)] w (MadeS w B g j) := by
  have hlt := ht.lt
  have hcon := next_any g j B 3 (w.alloc (.cells #[.string ⟨#[111, 49]⟩, .string ⟨#[111, 50]⟩, .string ⟨#[112]⟩] 9)) (ht.alloc _) (by omega) (by omega) (by omega)
  have HC := hide hcon
  clear hcon
  go_enter Tryd.func73, Tryd.ntmps73
  go_wp2_with fail
  with_reducible refine HC.out.mono ?_
  rintro e w1 ⟨v, rfl, h0, h3, ht1, hg1⟩
  have c0 := (grown_cell hg1 (b := w.heap.size) (by simp) (by omega) 0).trans (World.cell?_alloc_mark w _ 9 (0, 0) 0)
  have c1 := (grown_cell hg1 (b := w.heap.size) (by simp) (by omega) 1).trans (World.cell?_alloc_mark w _ 9 (0, 0) 1)
  have c2 := (grown_cell hg1 (b := w.heap.size) (by simp) (by omega) 2).trans (World.cell?_alloc_mark w _ 9 (0, 0) 2)
  have hg := grown_alloc hg1
  have hv : v = 0 ∨ v = 1 ∨ v = 2 := by omega
  clear hg1 h0 h3
  rcases hv with rfl | rfl | rfl
  all_goals
    go_wp2
    go_ret
    exact ⟨_, rfl, by decide, ht1, hg⟩

set_option maxHeartbeats 1000000 in
theorem product_any (g j B : Nat) (w : World) (ht : Tape w B g j) (hj : j ≤ 100000) :
    Calls Tryd.prog 74 #[.pointer (some ⟨g, 0, none⟩)] w (MadeS w B g j) := by
  have hlt := ht.lt
  have hcon := next_any g j B 4 w ht (by omega) (by omega) (by omega)
  have HC := hide hcon
  clear hcon
  go_enter Tryd.func74, Tryd.ntmps74
  go_wp2_with fail
  with_reducible refine HC.out.mono ?_
  rintro e w1 ⟨v, rfl, h0, h3, ht1, hg1⟩
  go_wp2_with (go_at_call 47; with_reducible refine (id_is v w1 h0 (by omega)).mono ?_; rintro e w2 ⟨rfl, hB2⟩)
  go_ret
  have hz := hg1.size
  exact ⟨_, rfl, by rw [idS_size]; omega, ht1.below hB2 ht1.lt, ⟨hB2.os.trans hg1.os, hB2.tape.trans hg1.tape, hB2.output.trans hg1.output, Nat.le_trans hz hB2.size, fun k hk hne => (hB2.block k (by omega)).trans (hg1.block k hk hne)⟩⟩

/-- a maker of a row -/
def MadeR (w : World) (B g j : Nat) (e : Ending) (w' : World) : Prop :=
  ∃ r : Rw, e = .returned (.agg #[.string r.o, .string r.p, .int .i64 r.a, .int .i64 r.b, .int .i64 r.c]) ∧ r.o.size ≤ 8 ∧ r.p.size ≤ 8 ∧ Tape w' B g (j + 6) ∧ w.grownBy w' (some g)

set_option maxHeartbeats 4000000 in
theorem row_any (g j B : Nat) (w : World) (ht : Tape w B g j) (hj : j ≤ 90000) :
    Calls Tryd.prog 50 #[.pointer (some ⟨g, 0, none⟩)] w (MadeR w B g j) := by
  have hlt := ht.lt
  go_enter Tryd.func50, Tryd.ntmps50
  have hc1 := next_any g j B 20 (w.alloc (.cells #[.string ⟨#[]⟩, .string ⟨#[]⟩, .int .i64 0, .int .i64 0, .int .i64 0] 43)) (ht.alloc _) (by omega) (by omega) (by omega)
  have HC1 := hide hc1
  clear hc1
  have hbx := Blk.new w 43 #[.string ⟨#[]⟩, .string ⟨#[]⟩, .int .i64 0, .int .i64 0, .int .i64 0]
  have hne : w.heap.size ≠ g := by omega
  have hne' : some w.heap.size ≠ some g := fun e => hne (Option.some.inj e)
  go_wp2_with fail
  with_reducible refine HC1.out.mono ?_
  rintro e w1 ⟨u, rfl, u0, u20, ht1, hg1⟩
  have hbx1 := hbx.grown hg1 hne'
  go_wp2_with fail
  with_reducible refine (outlet_any g (j + 1) B w1 ht1 (by omega)).mono ?_
  rintro e w2 ⟨o, rfl, hos, ht2, hg2⟩
  have hbx2 := hbx1.grown hg2 hne'
  go_wp2_with fail
  with_reducible refine (product_any g (j + 1 + 1) B w2 ht2 (by omega)).mono ?_
  rintro e w3 ⟨p, rfl, hps, ht3, hg3⟩
  have hbx3 := hbx2.grown hg3 hne'
  go_wp2_with fail
  with_reducible refine (next_any g (j + 1 + 1 + 1) B 4 w3 ht3 (by omega) (by omega) (by omega)).mono ?_
  rintro e w4 ⟨a, rfl, a0, a4, ht4, hg4⟩
  have hbx4 := hbx3.grown hg4 hne'
  go_wp2_with fail
  with_reducible refine (next_any g (j + 1 + 1 + 1 + 1) B 30 w4 ht4 (by omega) (by omega) (by omega)).mono ?_
  rintro e w5 ⟨b, rfl, b0, b30, ht5, hg5⟩
  have hbx5 := hbx4.grown hg5 hne'
  go_wp2_with fail
  with_reducible refine (next_any g (j + 1 + 1 + 1 + 1 + 1) B 3 w5 ht5 (by omega) (by omega) (by omega)).mono ?_
  rintro e w6 ⟨c, rfl, c0, c3, ht6, hg6⟩
  have hbx6 := hbx5.grown hg6 hne'
  have hgrow : w.grownBy w6 (some g) := ((((((grown_alloc hg1).trans hg2).trans hg3).trans hg4).trans hg5).trans hg6)
  have d0 := hbx6.cell 0
  have d1 := hbx6.cell 1
  have d2 := hbx6.cell 2
  have d3 := hbx6.cell 3
  have d4 := hbx6.cell 4
  have f0 := hbx6.frozen 0
  have f1 := hbx6.frozen 1
  have f2 := hbx6.frozen 2
  have f3 := hbx6.frozen 3
  have f4 := hbx6.frozen 4
  clear hbx hbx1 hbx2 hbx3 hbx4 hbx5 hbx6 ht1 ht2 ht3 ht4 ht5 hg1 hg2 hg3 hg4 hg5 hg6
  go_wp2
  refine bodyPost_ret (v := .agg #[.string o, .string p, .int .i64 (1440 + a), .int .i64 (1 + u), .int .i64 (wrap64 (wrap64 ((1 + u) * (90 + b)) + c))]) (by simp [results, Tryd.results50, go_sem, d0, d1, d2, d3, d4]) rfl ?_
  refine ⟨⟨o, p, 1440 + a, 1 + u, wrap64 (wrap64 ((1 + u) * (90 + b)) + c)⟩, rfl, hos, hps, ?_, ?_⟩
  · have hB := ht.base
    exact ((((ht6.setCell (p := ⟨w.heap.size, 0, none⟩) hne (by simp; omega) _).setCell (p := ⟨w.heap.size, 1, none⟩) hne (by simp; omega) _).setCell (p := ⟨w.heap.size, 2, none⟩) hne (by simp; omega) _).setCell (p := ⟨w.heap.size, 3, none⟩) hne (by simp; omega) _).setCell (p := ⟨w.heap.size, 4, none⟩) hne (by simp; omega) _
  · exact only_setCell (only_setCell (only_setCell (only_setCell (only_setCell hgrow (.inr (Nat.le_refl _)) _) (.inr (Nat.le_refl _)) _) (.inr (Nat.le_refl _)) _) (.inr (Nat.le_refl _)) _) (.inr (Nat.le_refl _)) _

theorem info43' : (Tryd.prog.info? 43).map (fun i => (i.zero, i.size, i.bytes)) = some (some (.agg #[.string ⟨#[]⟩, .string ⟨#[]⟩, .int .i64 0, .int .i64 0, .int .i64 0]), 5, 56) := by kernel_rfl

/-- a maker of rows -/
def MadeRs (w : World) (B g j m : Nat) (e : Ending) (w' : World) : Prop :=
  ∃ (v : Value) (R : List Rw), e = .returned v ∧ w'.ownsRow w.heap.size 43 5 v R.length (R.flatMap rc) ∧ R.length ≤ m ∧ (∀ r ∈ R, r.o.size ≤ 8 ∧ r.p.size ≤ 8) ∧ Tape w' B g (j + 1 + 6 * m) ∧ w.grownBy w' (some g)

theorem own_far {w w' : World} {base : Nat} {e : TypeId} {size n : Nat} {v : Value} {xs : List Value} (h : w.ownsRow base e size v n xs) {g : Nat} (hg : w.grownBy w' (some g)) (hlt : g < base) : w'.ownsRow base e size v n xs :=
  own_kept h hg (fun x hx e => by obtain rfl := Option.some.inj hx; have := own_block_ge h _ e; omega)
theorem grownBy_own {w w0 w1 : World} {base : Nat} {e : TypeId} {size n g : Nat} {v : Value} {xs : List Value} (hg : w.grownBy w0 (some g)) (hown : w0.ownsRow base e size v n xs) (hb : base = w.heap.size) (h : w0.grownBy w1 v.ownBlock) : w.grownBy w1 (some g) :=
  ⟨h.os.trans hg.os, h.tape.trans hg.tape, h.output.trans hg.output, Nat.le_trans hg.size h.size, fun i hi hne => (h.block i (Nat.lt_of_lt_of_le hi hg.size) (fun e => by have := own_block_ge hown i e.symm; omega)).trans (hg.block i hi hne)⟩

set_option maxHeartbeats 4000000 in
set_option maxRecDepth 100000 in
theorem rows_any (g j B : Nat) (m : Nat) (w : World) (ht : Tape w B g j) (hj : j ≤ 10000) (hm : m ≤ 1000) :
    Calls Tryd.prog 20 #[.pointer (some ⟨g, 0, none⟩), .int .i64 m] w (MadeRs w B g j m) := by
  obtain ⟨i0, hi, hz0, hz1, hz2⟩ := info_parts info43'
  have hlt := ht.lt
  have hc1 := next_any g j B ((m : Int) + 1) w ht (by omega) (by omega) (by omega)
  have HC1 := hide hc1
  clear hc1
  go_enter Tryd.func20, Tryd.ntmps20
  go_wp2_with fail
  with_reducible refine HC1.out.mono ?_
  rintro e w1 ⟨u, rfl, u0, um, ht1, hg1⟩
  obtain ⟨n, rfl⟩ := Int.eq_ofNat_of_zero_le u0
  go_wp2
  go_loopw [5, 10] (fun v i wr => ∃ (k : Nat) (R : List Rw), k ≤ n ∧ i = .int .i64 k ∧ Hid (R.length = k) ∧ Hid (∀ r ∈ R, r.o.size ≤ 8 ∧ r.p.size ≤ 8) ∧ wr.ownsRow w.heap.size 43 5 v k (R.flatMap rc) ∧ Tape wr B g (j + 1 + 6 * k) ∧ w.grownBy wr (some g)) (fun _ i _ => n - (intOf i).toNat)
  case atStart => exact ⟨0, [], Nat.zero_le _, rfl, rfl, (show ∀ r ∈ ([] : List Rw), r.o.size ≤ 8 ∧ r.p.size ≤ 8 from fun r hr => by cases hr), ownsRow_nil' _ _ _ _, ht1, hg1⟩
  case round =>
    obtain ⟨k, R, hk, rfl, Hl, Hs, hown, htk, hgk⟩ := hrel
    have hz := hgk.size
    by_cases hlt2 : k < n
    · go_wp2_with fail
      with_reducible refine (row_any g (j + 1 + 6 * k) B wr htk (by omega)).mono ?_
      rintro e w2 ⟨r, rfl, hro, hrp, ht2, hg2⟩
      have hown2 := own_far hown hg2 hlt
      have hgr := hgk.trans hg2
      have hs2 := hg2.size
      obtain ⟨ro, rp, ra, rb, rcc⟩ := r
      go_wp2_with (at_builtin; refine wpList_append_elem w2 rfl _ _ 29 rfl w.heap.size 43 i0 _ 5 56 Tryd.underlying29 hi hz0 hz1 hz2 rfl (by omega) (by omega) _ k _ rfl hown2 #[.string ro, .string rp, .int .i64 ra, .int .i64 rb, .int .i64 rcc] rfl rfl rfl (by simp [Value.oneCell']) (by omega) (by omega) ?_; intro v3 w3 hown3 hg3 _)
      have hgf := grownBy_own hgr hown2 rfl hg3
      have htf := ht2.far hg3 (fun e => by have := own_block_ge hown2 g e; omega) (fun x hx => by have := own_block_ge hown2 x hx; have := ht.base; omega)
      have hall : Hid (∀ r ∈ R ++ [(⟨ro, rp, ra, rb, rcc⟩ : Rw)], r.o.size ≤ 8 ∧ r.p.size ≤ 8) := fun r hr => by
        rcases List.mem_append.1 hr with h | h
        · exact Hs.out r h
        · obtain rfl := List.mem_singleton.1 h
          exact ⟨hro, hrp⟩
      have hlen : Hid ((R ++ [(⟨ro, rp, ra, rb, rcc⟩ : Rw)]).length = k + 1) := by show (R ++ [_]).length = k + 1; rw [List.length_append, Hl.out]; rfl
      go_roundw
      case rel => exact ⟨k + 1, R ++ [(⟨ro, rp, ra, rb, rcc⟩ : Rw)], by omega, by go_num, hlen, hall, by rw [List.flatMap_append]; exact hown3, htf.more (by omega), hgf⟩
      case measure => simp [intOf]; omega
    · obtain rfl : k = n := by omega
      go_wp2
      go_ret
      exact ⟨_, R, rfl, by rw [Hl.out]; exact hown, by have := Hl.out; omega, Hs.out, htk.more (by omega), hgk⟩
end Go.Proofs.YtjgbadopladmdaaDoor
