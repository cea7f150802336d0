/- The walk of product.Find on a list of one product that has the ID. -/
import Derived.Test.YtjgbadopladmdaaDoorNormW
import Derived.Lib.SliceRun
namespace Go.Proofs.YtjgbadopladmdaaDoor
open Go.RowKit
open Rel (Lk)

set_option maxHeartbeats 1000000 in
set_option maxRecDepth 100000 in
theorem isid_any (p : Pr) (s : Value) (lb : Nat) (w : World) (c0 : w.cell? ⟨lb, 0, none⟩ = some (.string p.id)) :
    Calls Tryd.prog 58 #[.agg (pv p s), .pointer (some ⟨lb, 0, none⟩)] w fun e w' => e = .returned (.bool true) ∧ Below w.heap.size w w' := by
  have hl := World.block_lt_of_cell? w _ c0
  have e0 := fun O : Obj => (World.cell?_alloc_lt w O ⟨lb, 0, none⟩ hl).trans c0
  obtain ⟨id, cd, br, d, m, am⟩ := p
  simp only [pv]
  go_enter Tryd.func58, Tryd.ntmps58
  go_wp2
  go_ret
  exact ⟨by simp, (Below.refl _ _).alloc (Nat.le_refl _) _⟩

set_option maxHeartbeats 1000000 in
set_option maxRecDepth 100000 in
theorem clone_any (ad : Addr) (n c B : Nat) (L : List Lk) (w : World) (h : Reads w B 2 (some ad) n (L.flatMap lc)) (hl : n = L.length) (hB : B ≤ w.heap.size) (hn : n ≤ 1000) :
    Calls Tryd.prog 59 #[.slice (some ad) n c] w fun e w' => ∃ (A : Option Addr) (c' : Nat), e = .returned (.slice A n c') ∧ RowL w' w.heap.size A n L ∧ n ≤ c' ∧ Below w.heap.size w w' := by
  obtain ⟨i0, hi, hz0, hz1, hz2⟩ := info_parts info57
  have HR := hide (h.more hB)
  have Hl := hide hl
  clear hl h
  have hnil : ∀ W, (binOp .eql 48 (.slice (some ad) n c) (.slice none 0 0)).run Tryd.prog W = .ok (.bool false) W := fun W => Lib.run_eql_slice_nil W 48 57 (some ad) n c 0 0 Tryd.underlying48
  go_enter Tryd.func59, Tryd.ntmps59
  go_wp2_with (at_builtin
               refine wpList_append_copy w rfl _ _ _ rfl 57 i0 _ 2 32 Tryd.underlying48 hi hz0 hz1 hz2 rfl (by omega) (by omega) rfl rfl (some ad) n c _ rfl HR.out (lc_one _) (by omega) ?_
               intro v1 w1 hown1 hb1
               obtain ⟨A1, c1, rfl, hnc1, _⟩ := own_form hown1
               have HO := hide hown1
               clear hown1)
  go_ret
  exact ⟨A1, c1, rfl, RowL.of_own HO.out Hl.out.symm rfl, hnc1, hb1⟩

set_option maxHeartbeats 2000000 in
set_option maxRecDepth 100000 in
theorem index_one (p : Pr) (s : Value) (lb bb : Nat) (w : World) (c0 : w.cell? ⟨lb, 0, none⟩ = some (.string p.id)) (hx : Blk w bb 50 (pv p s)) :
    Calls Tryd.prog 57 #[.slice (some ⟨bb, 0, none⟩) 1 1, .func (.func 58) #[] #[.pointer (some ⟨lb, 0, none⟩)]] w fun e w' => e = .returned (.int .i64 0) ∧ Below w.heap.size w w' := by
  have hcall := isid_any p s lb w c0
  obtain ⟨id, cd, br, d, m, am⟩ := p
  simp only [pv] at hx hcall
  have x0 := hx.cell 0
  have x1 := hx.cell 1
  have x2 := hx.cell 2
  have x3 := hx.cell 3
  have x4 := hx.cell 4
  have x5 := hx.cell 5
  have x6 := hx.cell 6
  simp only [List.getElem?_toArray, List.getElem?_cons_zero, List.getElem?_cons_succ] at x0 x1 x2 x3 x4 x5 x6
  have HC := hide hcall
  clear hcall hx c0
  go_enter Tryd.func57, Tryd.ntmps57
  go_wp2
  refine wp_loop_rounds 1 ?_
  rw [rounds_succ]
  go_wp2_with fail
  with_reducible refine HC.out.mono ?_
  rintro e w1 ⟨rfl, hB1⟩
  go_wp2_with fail
  go_ret
  exact ⟨rfl, hB1⟩

set_option maxHeartbeats 4000000 in
set_option maxRecDepth 100000 in
theorem find_one (p : Pr) (ad : Addr) (n c B bb : Nat) (L : List Lk) (w : World) (h : Reads w B 2 (some ad) n (L.flatMap lc)) (hl : n = L.length) (hB : B ≤ w.heap.size) (hn : n ≤ 1000)
    (hx : Blk w bb 50 (pv p (.slice (some ad) n c))) :
    Calls Tryd.prog 31 #[.slice (some ⟨bb, 0, none⟩) 1 1, .string p.id] w fun e w' => ∃ (A : Option Addr) (c' : Nat), e = .returned (.tuple #[.agg (pv p (.slice A n c')), .bool true]) ∧ RowL w' w.heap.size A n L ∧ n ≤ c' ∧ Below w.heap.size w w' := by
  have Hl := hide hl
  clear hl
  have hb0 := (Below.refl w.heap.size w).alloc (Nat.le_refl _) (.cells #[.string p.id] 9)
  have hb1 := hb0.alloc (by simp) (.cells #[.string ⟨#[]⟩, .string ⟨#[]⟩, .string ⟨#[]⟩, .int .i64 0, .int .i64 0, .int .i64 0, .slice none 0 0] 50)
  have hlb := ((Blk.new w 9 #[.string p.id]).alloc (.cells #[.string ⟨#[]⟩, .string ⟨#[]⟩, .string ⟨#[]⟩, .int .i64 0, .int .i64 0, .int .i64 0, .slice none 0 0] 50)).cell 0
  have hby := Blk.new (w.alloc (.cells #[.string p.id] 9)) 50 #[.string ⟨#[]⟩, .string ⟨#[]⟩, .string ⟨#[]⟩, .int .i64 0, .int .i64 0, .int .i64 0, .slice none 0 0]
  rw [World.size_alloc] at hby
  have hsz : ((w.alloc (.cells #[.string p.id] 9)).alloc (.cells #[.string ⟨#[]⟩, .string ⟨#[]⟩, .string ⟨#[]⟩, .int .i64 0, .int .i64 0, .int .i64 0, .slice none 0 0] 50)).heap.size = w.heap.size + 2 := by simp
  have hlx := hx.lt
  have hix := index_one p (.slice (some ad) n c) w.heap.size bb _ hlb ((hx.alloc (.cells #[.string p.id] 9)).alloc (.cells #[.string ⟨#[]⟩, .string ⟨#[]⟩, .string ⟨#[]⟩, .int .i64 0, .int .i64 0, .int .i64 0, .slice none 0 0] 50))
  have hrd := h.below (hb1.mono hB)
  have hx1 := (hx.alloc (.cells #[.string p.id] 9)).alloc (.cells #[.string ⟨#[]⟩, .string ⟨#[]⟩, .string ⟨#[]⟩, .int .i64 0, .int .i64 0, .int .i64 0, .slice none 0 0] 50)
  generalize hW : (w.alloc (.cells #[.string p.id] 9)).alloc (.cells #[.string ⟨#[]⟩, .string ⟨#[]⟩, .string ⟨#[]⟩, .int .i64 0, .int .i64 0, .int .i64 0, .slice none 0 0] 50) = W at hb1 hlb hby hsz hix hrd hx1
  have HW := hide hW
  have HB := hide hb1
  have HY := hide hby
  have HS := hide hsz
  have HI := hide hix
  have HR := hide hrd
  have HX := hide hx1
  clear hW hb0 hb1 hlb hby hsz hix hrd hx1 hx h
  obtain ⟨id, cd, br, d, m, am⟩ := p
  simp only [pv] at HX HW HB HI ⊢
  go_enter Tryd.func31, Tryd.ntmps31
  go_wp2_with fail
  rw [HW.out]
  with_reducible refine HI.out.mono ?_
  rintro e w1 ⟨rfl, hB1⟩
  have hx1 := HX.out.below hB1 (by have := HS.out; omega)
  have x0 := hx1.cell 0
  have x1 := hx1.cell 1
  have x2 := hx1.cell 2
  have x3 := hx1.cell 3
  have x4 := hx1.cell 4
  have x5 := hx1.cell 5
  have x6 := hx1.cell 6
  simp only [List.getElem?_toArray, List.getElem?_cons_zero, List.getElem?_cons_succ] at x0 x1 x2 x3 x4 x5 x6
  have hz1 : w.heap.size + 2 ≤ w1.heap.size := by have := HS.out; have := hB1.size; omega
  have hy1 := HY.out.below hB1 (by have := HS.out; omega)
  have hrd1 := HR.out.below (hB1.mono (by have := HS.out; omega))
  have hb1 := HB.out.trans (hB1.mono (by have := HS.out; omega))
  have hcl := clone_any ad n c B L (w1.alloc (.cells #[.string id, .string cd, .string br, .int .i64 d, .int .i64 m, .int .i64 am, .slice (some ad) n c] 50)) (hrd1.alloc (by omega) _) Hl.out (by simp; omega) hn
  rw [World.size_alloc] at hcl
  have hbz := Blk.new w1 50 #[.string id, .string cd, .string br, .int .i64 d, .int .i64 m, .int .i64 am, .slice (some ad) n c]
  have hya := hy1.alloc (.cells #[.string id, .string cd, .string br, .int .i64 d, .int .i64 m, .int .i64 am, .slice (some ad) n c] 50)
  have hba := hb1.alloc (by omega) (.cells #[.string id, .string cd, .string br, .int .i64 d, .int .i64 m, .int .i64 am, .slice (some ad) n c] 50)
  have hza : (w1.alloc (.cells #[.string id, .string cd, .string br, .int .i64 d, .int .i64 m, .int .i64 am, .slice (some ad) n c] 50)).heap.size = w1.heap.size + 1 := by simp
  have HC := hide hcl
  have HZ := hide hbz
  have HA := hide hya
  have HBA := hide hba
  have HZA := hide hza
  clear hcl hbz hya hba hza hb1 hrd1 hy1 hx1 hB1
  go_wp2_with fail
  with_reducible refine HC.out.mono ?_
  rintro e w2 ⟨A1, c1, rfl, hr2, hnc1, hB2⟩
  have hz2 := hB2.size
  have hbz2 := HZ.out.below hB2 (by have := HZA.out; omega)
  have hy2 := HA.out.below hB2 (by have := HZA.out; omega)
  have hb2 := HBA.out.trans (hB2.mono (by have := HZA.out; omega))
  have y6 := hbz2.cell 6
  have g6 := hbz2.frozen 6
  have v0 := hbz2.cell 0
  have v1 := hbz2.cell 1
  have v2 := hbz2.cell 2
  have v3 := hbz2.cell 3
  have v4 := hbz2.cell 4
  have v5 := hbz2.cell 5
  have q0 := hy2.cell 0
  have q1 := hy2.cell 1
  have q2 := hy2.cell 2
  have q3 := hy2.cell 3
  have q4 := hy2.cell 4
  have q5 := hy2.cell 5
  have q6 := hy2.cell 6
  have f0 := hy2.frozen 0
  have f1 := hy2.frozen 1
  have f2 := hy2.frozen 2
  have f3 := hy2.frozen 3
  have f4 := hy2.frozen 4
  have f5 := hy2.frozen 5
  have f6 := hy2.frozen 6
  simp only [List.getElem?_toArray, List.getElem?_cons_zero, List.getElem?_cons_succ] at y6 v0 v1 v2 v3 v4 v5 q0 q1 q2 q3 q4 q5 q6
  have hne : w1.heap.size ≠ w.heap.size + 1 := by omega
  have HR2 := hide hr2
  have HB2 := hide hb2
  clear hr2 hb2 hy2 hbz2 hB2 x0 x1 x2 x3 x4 x5 x6
  go_wp2_with fail
  refine bodyPost_ret (v := .tuple #[.agg (pv ⟨id, cd, br, d, m, am⟩ (.slice A1 n c1)), .bool true]) (by simp [results, Tryd.results31, go_sem, pv, q0, q1, q2, q3, q4, q5, q6]) rfl ?_
  refine ⟨A1, c1, rfl, ?_, hnc1, ?_⟩
  · have hza := HZA.out
    refine RowL.base_ ?_ (show w.heap.size ≤ w1.heap.size + 1 by omega)
    iterate 7 (refine RowL.far ?_ (by show w.heap.size + 1 < _; omega) _)
    refine RowL.far ?_ (by show w1.heap.size < _; omega) _
    exact HR2.out
  · iterate 7 (refine Below.setCell ?_ (by show w.heap.size ≤ w.heap.size + 1; omega) _)
    refine Below.setCell ?_ (by show w.heap.size ≤ w1.heap.size; omega) _
    exact HB2.out
end Go.Proofs.YtjgbadopladmdaaDoor
