/- The walk of product.Normalize. -/
import Derived.Test.YtjgbadopladmdaaDoorInsW
import Derived.Test.YtjgbadopladmdaaDoorEachT
import Derived.Test.YtjgbadopladmdaaDoorChainW
namespace Go.Proofs.YtjgbadopladmdaaDoor
open Go.RowKit
open Rel (Lk)

theorem info57 : (Tryd.prog.info? 57).map (fun i => (i.zero, i.size, i.bytes)) = some (some (.agg #[.string ⟨#[]⟩, .string ⟨#[]⟩]), 2, 32) := by kernel_rfl

/-- a product whose attributes, in new memory, read as L -/
def GaveP (w : World) (p : Pr) (n : Nat) (L : List Lk) (e : Ending) (w' : World) : Prop :=
  ∃ (A : Option Addr) (c : Nat), e = .returned (.agg (pv p (.slice A n c))) ∧ RowL w' w.heap.size A n L ∧ n ≤ c ∧ Below w.heap.size w w'

set_option maxHeartbeats 4000000 in
set_option maxRecDepth 100000 in
theorem normalize_any (p : Pr) (A : Option Addr) (n c B : Nat) (L : List Lk) (w : World) (h : Reads w B 2 A n (L.flatMap lc)) (hl : n = L.length) (hB : B ≤ w.heap.size) (hn : n ≤ 19) :
    Calls Tryd.prog 30 #[.agg (pv p (.slice A n c))] w (GaveP w p n (Srt.srt L)) := by
  obtain ⟨i0, hi, hz0, hz1, hz2⟩ := info_parts info57
  obtain ⟨id, cd, br, d, m, am⟩ := p
  have Hl := hide hl
  clear hl
  simp only [pv]
  have hb0 := (Below.refl w.heap.size w).alloc (Nat.le_refl _) (.cells #[.string id, .string cd, .string br, .int .i64 d, .int .i64 m, .int .i64 am, .slice A n c] 50)
  have hb1 := hb0.alloc (by simp) (.cells #[.string ⟨#[]⟩, .string ⟨#[]⟩, .string ⟨#[]⟩, .int .i64 0, .int .i64 0, .int .i64 0, .slice none 0 0] 50)
  have hbx := (Blk.new w 50 #[.string id, .string cd, .string br, .int .i64 d, .int .i64 m, .int .i64 am, .slice A n c]).alloc (.cells #[.string ⟨#[]⟩, .string ⟨#[]⟩, .string ⟨#[]⟩, .int .i64 0, .int .i64 0, .int .i64 0, .slice none 0 0] 50)
  have hby := Blk.new (w.alloc (.cells #[.string id, .string cd, .string br, .int .i64 d, .int .i64 m, .int .i64 am, .slice A n c] 50)) 50 #[.string ⟨#[]⟩, .string ⟨#[]⟩, .string ⟨#[]⟩, .int .i64 0, .int .i64 0, .int .i64 0, .slice none 0 0]
  have hrd := h.below (hb1.mono hB)
  rw [World.size_alloc] at hby
  have hbs : ((w.alloc (.cells #[.string id, .string cd, .string br, .int .i64 d, .int .i64 m, .int .i64 am, .slice A n c] 50)).alloc (.cells #[.string ⟨#[]⟩, .string ⟨#[]⟩, .string ⟨#[]⟩, .int .i64 0, .int .i64 0, .int .i64 0, .slice none 0 0] 50)).heap.size = w.heap.size + 2 := by simp
  have HX := hide hbx
  have HY := hide hby
  have HR := hide hrd
  have HB := hide hb1
  have HBS := hide hbs
  clear hbx hby hrd hb0 hb1 h hbs
  go_enter Tryd.func30, Tryd.ntmps30
  go_wp2_with (at_builtin
               refine wpList_append_any _ rfl _ _ _ rfl (w.heap.size + 2) 57 i0 _ 2 32 Tryd.underlying48 hi hz0 hz1 hz2 rfl (by omega) (.slice none 0 0) 0 [] rfl (ownsRow_nil' _ _ _ _) B A n c _ rfl HR.out (lc_one _) (by unfold maxLen; omega) (by omega) (Nat.le_of_eq HBS.out.symm) ?_
               intro v1 w1 hown1 hg1 _
               rw [Nat.zero_add] at hown1
               obtain ⟨A1, c1, rfl, hnc1, _⟩ := own_form hown1
               have hbx1 := HX.out.grown hg1 (by simp [Value.ownBlock])
               have hby1 := HY.out.grown hg1 (by simp [Value.ownBlock])
               have hb1 := HB.out.grown hg1 (by have := HBS.out; omega) (fun x hx => by simp [Value.ownBlock] at hx)
               have hsz := hg1.size
               rw [HBS.out] at hsz
               have x6 := hbx1.cell 6
               have f6 := hbx1.frozen 6
               simp only [List.getElem?_toArray, List.getElem?_cons_zero, List.getElem?_cons_succ] at x6
               have HX1 := hide hbx1
               have HY1 := hide hby1
               have HB1 := hide hb1
               have HO1 := hide hown1
               clear hbx1 hby1 hb1 hg1 hown1)
  have hrow := (RowL.of_own HO1.out Hl.out.symm rfl).far (p := ⟨w.heap.size, 6, none⟩) (by show w.heap.size < _; omega) (.slice A1 n c1)
  have hcall := sortst_any A1 n c1 (w.heap.size + 2) L _ hrow hnc1 hn (by simp [World.setCell]; omega)
  have HC := hide hcall
  clear hcall hrow
  with_reducible refine HC.out.mono ?_
  rintro e w2 ⟨rfl, hr2, hB2⟩
  have hbx2 := (HX1.out.set_ 6 (.slice A1 n c1)).below hB2 (by omega)
  have hby2 := (HY1.out.far (p := ⟨w.heap.size, 6, none⟩) (by simp) (.slice A1 n c1)).below hB2 (by omega)
  have x0 := hbx2.cell 0
  have x1 := hbx2.cell 1
  have x2 := hbx2.cell 2
  have x3 := hbx2.cell 3
  have x4 := hbx2.cell 4
  have x5 := hbx2.cell 5
  have x6 := hbx2.cell 6
  have y0 := hby2.cell 0
  have y1 := hby2.cell 1
  have y2 := hby2.cell 2
  have y3 := hby2.cell 3
  have y4 := hby2.cell 4
  have y5 := hby2.cell 5
  have y6 := hby2.cell 6
  have f0 := hby2.frozen 0
  have f1 := hby2.frozen 1
  have f2 := hby2.frozen 2
  have f3 := hby2.frozen 3
  have f4 := hby2.frozen 4
  have f5 := hby2.frozen 5
  have f6 := hby2.frozen 6
  simp only [List.getElem?_toArray, List.setIfInBounds_toArray, List.set_cons_succ, List.set_cons_zero, List.getElem?_cons_zero, List.getElem?_cons_succ] at x0 x1 x2 x3 x4 x5 x6 y0 y1 y2 y3 y4 y5 y6
  have hb2 := (HB1.out.setCell (p := ⟨w.heap.size, 6, none⟩) (Nat.le_refl _) (.slice A1 n c1)).trans (hB2.mono (by omega))
  have HR2 := hide hr2
  have HB2 := hide hb2
  clear hbx2 hby2 hr2 hb2 hB2
  go_wp2_with fail
  refine bodyPost_ret (v := .agg (pv ⟨id, cd, br, d, m, am⟩ (.slice A1 n c1))) (by simp [results, Tryd.results30, go_sem, pv, y0, y1, y2, y3, y4, y5, y6]) rfl ?_
  refine ⟨A1, c1, rfl, ?_, hnc1, ?_⟩
  · refine RowL.base_ (base := w.heap.size + 2) ?_ (by omega)
    iterate 7 (refine RowL.far ?_ (by show w.heap.size + 1 < _; omega) _)
    exact HR2.out
  · iterate 7 (refine Below.setCell ?_ (by show w.heap.size ≤ w.heap.size + 1; omega) _)
    exact HB2.out
end Go.Proofs.YtjgbadopladmdaaDoor
