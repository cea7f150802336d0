/- The walk of the reference's Normalize. -/
import Derived.Test.YtjgbadopladmdaaDoorSortedW
namespace Go.Proofs.YtjgbadopladmdaaDoor
open Go.RowKit
open Rel (Lk)

set_option maxHeartbeats 4000000 in
set_option maxRecDepth 100000 in
theorem rnormalize_any (p : Pr) (A : Option Addr) (n c B : Nat) (L : List Lk) (w : World) (h : Recs lc 2 w B A n L) (hB : B ≤ w.heap.size) (hn : n ≤ 1000) :
    Calls Tryd.prog 35 #[.agg (pv p (.slice A n c))] w (GaveP w p n (Srt.srt L)) := by
  obtain ⟨id, cd, br, d, m, am⟩ := p
  have Hl := hide h.len
  simp only [pv]
  have hb1 := ((Below.refl w.heap.size w).alloc (Nat.le_refl _) (.cells #[.string id, .string cd, .string br, .int .i64 d, .int .i64 m, .int .i64 am, .slice A n c] 50)).alloc (by simp) (.cells #[.string ⟨#[]⟩, .string ⟨#[]⟩, .string ⟨#[]⟩, .int .i64 0, .int .i64 0, .int .i64 0, .slice none 0 0] 50)
  have hbx := (Blk.new w 50 #[.string id, .string cd, .string br, .int .i64 d, .int .i64 m, .int .i64 am, .slice A n c]).alloc (.cells #[.string ⟨#[]⟩, .string ⟨#[]⟩, .string ⟨#[]⟩, .int .i64 0, .int .i64 0, .int .i64 0, .slice none 0 0] 50)
  have hby := Blk.new (w.alloc (.cells #[.string id, .string cd, .string br, .int .i64 d, .int .i64 m, .int .i64 am, .slice A n c] 50)) 50 #[.string ⟨#[]⟩, .string ⟨#[]⟩, .string ⟨#[]⟩, .int .i64 0, .int .i64 0, .int .i64 0, .slice none 0 0]
  rw [World.size_alloc] at hby
  have hsz : ((w.alloc (.cells #[.string id, .string cd, .string br, .int .i64 d, .int .i64 m, .int .i64 am, .slice A n c] 50)).alloc (.cells #[.string ⟨#[]⟩, .string ⟨#[]⟩, .string ⟨#[]⟩, .int .i64 0, .int .i64 0, .int .i64 0, .slice none 0 0] 50)).heap.size = w.heap.size + 2 := by simp
  have hcall := sorted_any A n c B L ((w.alloc (.cells #[.string id, .string cd, .string br, .int .i64 d, .int .i64 m, .int .i64 am, .slice A n c] 50)).alloc (.cells #[.string ⟨#[]⟩, .string ⟨#[]⟩, .string ⟨#[]⟩, .int .i64 0, .int .i64 0, .int .i64 0, .slice none 0 0] 50)) (h.below (hb1.mono hB)) (by omega) hn
  have HX := hide hbx
  have HY := hide hby
  have HB := hide hb1
  have HS := hide hsz
  have HC := hide hcall
  clear hbx hby hb1 hsz hcall h
  go_enter Tryd.func35, Tryd.ntmps35
  go_wp2_with fail
  with_reducible refine HC.out.mono ?_
  rintro e w2 ⟨v2, rfl, hown2, hB2⟩
  obtain ⟨A1, c1, rfl, hnc1, _⟩ := own_form hown2
  have hrow := RowL.of_own hown2 (by rw [Srt.srt_len]; exact Hl.out.symm) rfl
  have hz2 := hB2.size
  have hbx2 := HX.out.below hB2 (by have := HS.out; omega)
  have hby2 := HY.out.below hB2 (by have := HS.out; omega)
  have x0 := hbx2.cell 0
  have x1 := hbx2.cell 1
  have x2 := hbx2.cell 2
  have x3 := hbx2.cell 3
  have x4 := hbx2.cell 4
  have x5 := hbx2.cell 5
  have x6 := hbx2.cell 6
  have y0 := hby2.cell 0
  have y1 := hby2.cell 1
  have y2 := hby2.cell 2
  have y3 := hby2.cell 3
  have y4 := hby2.cell 4
  have y5 := hby2.cell 5
  have y6 := hby2.cell 6
  have f0 := hby2.frozen 0
  have f1 := hby2.frozen 1
  have f2 := hby2.frozen 2
  have f3 := hby2.frozen 3
  have f4 := hby2.frozen 4
  have f5 := hby2.frozen 5
  have f6 := hby2.frozen 6
  have g6 := hbx2.frozen 6
  simp only [List.getElem?_toArray, List.getElem?_cons_zero, List.getElem?_cons_succ] at x0 x1 x2 x3 x4 x5 x6 y0 y1 y2 y3 y4 y5 y6
  have hb2 := HB.out.trans (hB2.mono (by have := HS.out; omega))
  have HR2 := hide hrow
  have HB2 := hide hb2
  clear hbx2 hby2 hrow hb2 hB2 hown2
  go_wp2_with fail
  refine bodyPost_ret (v := .agg (pv ⟨id, cd, br, d, m, am⟩ (.slice A1 n c1))) (by simp [results, Tryd.results35, go_sem, pv, y0, y1, y2, y3, y4, y5, y6]) rfl ?_
  have hs := HS.out
  refine ⟨A1, c1, rfl, ?_, hnc1, ?_⟩
  · refine RowL.base_ (base := ((w.alloc (.cells #[.string id, .string cd, .string br, .int .i64 d, .int .i64 m, .int .i64 am, .slice A n c] 50)).alloc (.cells #[.string ⟨#[]⟩, .string ⟨#[]⟩, .string ⟨#[]⟩, .int .i64 0, .int .i64 0, .int .i64 0, .slice none 0 0] 50)).heap.size) ?_ (by omega)
    iterate 7 (refine RowL.far ?_ (by show w.heap.size + 1 < _; omega) _)
    refine RowL.far ?_ (by show w.heap.size < _; omega) _
    exact HR2.out
  · iterate 7 (refine Below.setCell ?_ (by show w.heap.size ≤ w.heap.size + 1; omega) _)
    refine Below.setCell ?_ (by show w.heap.size ≤ w.heap.size; omega) _
    exact HB2.out
end Go.Proofs.YtjgbadopladmdaaDoor
