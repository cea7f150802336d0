/- The walk of raw: a raw product with short strings and at most 14 attributes. -/
import Derived.Test.YtjgbadopladmdaaDoorNormW
namespace Go.Proofs.YtjgbadopladmdaaDoor
open Go.RowKit
open Rel (Lk)

/-- a product with short strings and at most 14 attributes of its own -/
def MadeQ (w : World) (e : Ending) (w' : World) : Prop :=
  ∃ (p : Pr) (A : Option Addr) (c n : Nat) (L : List Lk), e = .returned (.agg (pv p (.slice A n c))) ∧ n ≤ 14 ∧ n ≤ c ∧ RowL w' w.heap.size A n L ∧ p.cd.size ≤ 30 ∧ p.br.size ≤ 30 ∧ (∀ r ∈ L, r.1.size ≤ 30 ∧ r.2.size ≤ 30) ∧ Below w.heap.size w w'

set_option maxHeartbeats 8000000 in
set_option maxRecDepth 100000 in
theorem rawp_any (p : Pr) (A : Option Addr) (n c B : Nat) (L : List Lk) (wz : World) (h : Reads wz B 2 A n (L.flatMap lc)) (hl : n = L.length) (hB : B ≤ wz.heap.size) (hnc : n ≤ c) :
    Calls Tryd.prog 33 #[.agg (pv p (.slice A n c))] wz (MadeQ wz) := by
  obtain ⟨i0, hi, hz0, hz1, hz2⟩ := info_parts info57
  obtain ⟨id, cd, br, d, m, am⟩ := p
  simp only [pv]
  have m1 : min (id.size : Int) 20 = ((min id.size 20 : Nat) : Int) := by omega
  have m2 : min (cd.size : Int) 20 = ((min cd.size 20 : Nat) : Int) := by omega
  have m3 : min (br.size : Int) 30 = ((min br.size 30 : Nat) : Int) := by omega
  have m4 : min (n : Int) 14 = ((min n 14 : Nat) : Int) := by omega
  have y1 : min id.size 20 ≤ id.size := Nat.min_le_left _ _
  have y2 : min cd.size 20 ≤ cd.size ∧ min cd.size 20 ≤ 20 := ⟨Nat.min_le_left _ _, Nat.min_le_right _ _⟩
  have y3 : min br.size 30 ≤ br.size ∧ min br.size 30 ≤ 30 := ⟨Nat.min_le_left _ _, Nat.min_le_right _ _⟩
  have y4 : min n 14 ≤ n ∧ min n 14 ≤ 14 := ⟨Nat.min_le_left _ _, Nat.min_le_right _ _⟩
  generalize min id.size 20 = q1 at m1 y1
  generalize min cd.size 20 = q2 at m2 y2
  generalize min br.size 30 = q3 at m3 y3
  generalize min n 14 = q at m4 y4
  obtain ⟨y2, y2'⟩ := y2
  obtain ⟨y3, y3'⟩ := y3
  obtain ⟨y4, y4'⟩ := y4
  have z1 : (q1 : Int) ≤ (id.size : Int) := by omega
  have z2 : (q2 : Int) ≤ (cd.size : Int) := by omega
  have z3 : (q3 : Int) ≤ (br.size : Int) := by omega
  have z4 : (q : Int) ≤ (c : Int) := by omega
  have Y2 := hide y2'
  have Y3 := hide y3'
  clear y2' y3'
  have hr0 : Recs lc 2 wz B A q (L.take q) := by
    refine ⟨⟨by rw [flat_len lc_len, List.length_take]; omega, fun h0 => ?_⟩, by rw [List.length_take]; omega, by omega⟩
    obtain ⟨ad, e, hb, hc⟩ := h.2 (by omega)
    refine ⟨ad, e, hb, fun j u hu => hc j u ?_⟩
    rw [← List.take_append_drop q L, List.flatMap_append, List.getElem?_append_left ((List.getElem?_eq_some_iff.1 hu).1)]
    exact hu
  generalize L.take q = M at hr0
  clear h hl
  go_enter Tryd.func33, Tryd.ntmps33
  go_upto_region 1 with (fail)
  have hbW := ((Below.refl wz.heap.size wz).alloc (Nat.le_refl _) (.cells #[.string id, .string cd, .string br, .int .i64 d, .int .i64 m, .int .i64 am, .slice A n c] 50)).alloc (by simp) (.cells #[.string ⟨#[]⟩, .string ⟨#[]⟩, .string ⟨#[]⟩, .int .i64 0, .int .i64 0, .int .i64 0, .slice none 0 0] 50)
  have hxW := (Blk.new wz 50 #[.string id, .string cd, .string br, .int .i64 d, .int .i64 m, .int .i64 am, .slice A n c]).alloc (.cells #[.string ⟨#[]⟩, .string ⟨#[]⟩, .string ⟨#[]⟩, .int .i64 0, .int .i64 0, .int .i64 0, .slice none 0 0] 50)
  have hyW := Blk.new (wz.alloc (.cells #[.string id, .string cd, .string br, .int .i64 d, .int .i64 m, .int .i64 am, .slice A n c] 50)) 50 #[.string ⟨#[]⟩, .string ⟨#[]⟩, .string ⟨#[]⟩, .int .i64 0, .int .i64 0, .int .i64 0, .slice none 0 0]
  rw [World.size_alloc] at hyW
  have hsW : ((wz.alloc (.cells #[.string id, .string cd, .string br, .int .i64 d, .int .i64 m, .int .i64 am, .slice A n c] 50)).alloc (.cells #[.string ⟨#[]⟩, .string ⟨#[]⟩, .string ⟨#[]⟩, .int .i64 0, .int .i64 0, .int .i64 0, .slice none 0 0] 50)).heap.size = wz.heap.size + 2 := by simp
  generalize (wz.alloc (.cells #[.string id, .string cd, .string br, .int .i64 d, .int .i64 m, .int .i64 am, .slice A n c] 50)).alloc (.cells #[.string ⟨#[]⟩, .string ⟨#[]⟩, .string ⟨#[]⟩, .int .i64 0, .int .i64 0, .int .i64 0, .slice none 0 0] 50) = W at hbW hxW hyW hsW ⊢
  have hsa := Nat.le_of_eq hsW
  have hsb := Nat.le_of_eq hsW.symm
  clear hsW
  have hpa : wz.heap.size < W.heap.size := by omega
  have x0 := hxW.cell 0
  have x1 := hxW.cell 1
  have x2 := hxW.cell 2
  have x3 := hxW.cell 3
  have x4 := hxW.cell 4
  have x5 := hxW.cell 5
  have x6 := hxW.cell 6
  simp only [List.getElem?_toArray, List.getElem?_cons_zero, List.getElem?_cons_succ] at x0 x1 x2 x3 x4 x5 x6
  have HBW := hide hbW
  have HYW := hide hyW
  clear hbW hxW hyW
  refine wp_region_each (fun a0 D a w => ∃ (bk : Nat), a = upd a0 [(6, sel (D 0) (.pointer (some ⟨wz.heap.size, 0, none⟩)) undef), (7, sel (D 1) (.string id) undef), (8, sel (D 2) (.pointer (some ⟨wz.heap.size, 0, none⟩)) undef), (9, sel (D 3) (.string id) undef), (10, sel (D 4) (.int .i64 (id.size : Int)) undef), (11, sel (D 5) (.int .i64 (q1 : Int)) undef), (12, sel (D 6) (.string (id.extract 0 q1)) undef), (13, sel (D 7) (.pointer (some ⟨wz.heap.size, 1, none⟩)) undef), (14, sel (D 8) (.string cd) undef), (15, sel (D 9) (.pointer (some ⟨wz.heap.size, 1, none⟩)) undef), (16, sel (D 10) (.string cd) undef), (17, sel (D 11) (.int .i64 (cd.size : Int)) undef), (18, sel (D 12) (.int .i64 (q2 : Int)) undef), (19, sel (D 13) (.string (cd.extract 0 q2)) undef), (20, sel (D 14) (.pointer (some ⟨wz.heap.size, 2, none⟩)) undef), (21, sel (D 15) (.string br) undef), (22, sel (D 16) (.pointer (some ⟨wz.heap.size, 2, none⟩)) undef), (23, sel (D 17) (.string br) undef), (24, sel (D 18) (.int .i64 (br.size : Int)) undef), (25, sel (D 19) (.int .i64 (q3 : Int)) undef), (26, sel (D 20) (.string (br.extract 0 q3)) undef), (27, sel (D 21) (.pointer (some ⟨wz.heap.size, 3, none⟩)) undef), (28, sel (D 22) (.agg #[.int .i64 d, .int .i64 m, .int .i64 am]) undef), (29, sel (D 23) (.agg #[.string (id.extract 0 q1), .string (cd.extract 0 q2), .string (br.extract 0 q3), .int .i64 d, .int .i64 m, .int .i64 am, .slice none 0 0]) undef), (3, sel (D 24) (.pointer (some ⟨bk, 0, none⟩)) undef)] ∧ (Low W w) ∧ (D 24 = true → Has W w bk 50 (bif D 25 then #[.string (id.extract 0 q1), .string (cd.extract 0 q2), .string (br.extract 0 q3), .int .i64 d, .int .i64 m, .int .i64 am, .slice none 0 0] else #[.string ⟨#[]⟩, .string ⟨#[]⟩, .string ⟨#[]⟩, .int .i64 0, .int .i64 0, .int .i64 0, .slice none 0 0]))) (by kernel_rfl) (by kernel_rfl) ?_ ?_ ?_
  · refine ⟨0, ?_, Low.mk_ _, fun h => Bool.noConfusion h⟩
    simp [upd, Act.put]
  · refine ⟨?_, ?_, ?_, ?_, ?_, ?_, ?_, ?_, ?_, ?_, ?_, ?_, ?_, ?_, ?_, ?_, ?_, ?_, ?_, ?_, ?_, ?_, ?_, ?_, ?_, ?_, trivial⟩
    · intro D a w' K hClo hk0 hd hJ hK
      change D 0 = false at hk0
      obtain ⟨bk, rfl, hlow, hbx⟩ := hJ
      have n1 : D 1 = false := hClo.no 1 rfl (k := 0) (by decide) hk0
      have n25 : D 25 = false := hClo.no 25 rfl (k := 0) (by decide) hk0
      have n6 : D 6 = false := hClo.no 6 rfl (k := 1) (by decide) n1
      have n23 : D 23 = false := hClo.no 23 rfl (k := 6) (by decide) n6
      clear hClo hd
      simp only [upd, Act.put, List.setIfInBounds_toArray, List.set_cons_zero, List.set_cons_succ]
      go_wp2_with fail
      refine hK _ _ ⟨bk, ?_, ?_, ?_⟩
      · clear hK
        simp [upd, Act.put, also, *]
      · exact hlow
      · exact fun h => ((hbx (by simpa [also] using h))).of_eq (by simp [also, *])
    · intro D a w' K hClo hk0 hd hJ hK
      change D 1 = false at hk0
      obtain ⟨bk, rfl, hlow, hbx⟩ := hJ
      have e0 : D 0 = true := hd 0 (by decide)
      have n6 : D 6 = false := hClo.no 6 rfl (k := 1) (by decide) hk0
      have n25 : D 25 = false := hClo.no 25 rfl (k := 1) (by decide) hk0
      have n23 : D 23 = false := hClo.no 23 rfl (k := 6) (by decide) n6
      clear hClo hd
      have y0 := (hlow.b.cell (p := ⟨wz.heap.size, 0, none⟩) hpa).trans x0
      simp only [upd, Act.put, List.setIfInBounds_toArray, List.set_cons_zero, List.set_cons_succ, e0]
      go_wp2_with fail
      refine hK _ _ ⟨bk, ?_, ?_, ?_⟩
      · clear hK
        simp [upd, Act.put, also, *]
      · exact hlow
      · exact fun h => ((hbx (by simpa [also] using h))).of_eq (by simp [also, *])
    · intro D a w' K hClo hk0 hd hJ hK
      change D 2 = false at hk0
      obtain ⟨bk, rfl, hlow, hbx⟩ := hJ
      have n3 : D 3 = false := hClo.no 3 rfl (k := 2) (by decide) hk0
      have n25 : D 25 = false := hClo.no 25 rfl (k := 2) (by decide) hk0
      have n4 : D 4 = false := hClo.no 4 rfl (k := 3) (by decide) n3
      have n5 : D 5 = false := hClo.no 5 rfl (k := 4) (by decide) n4
      have n6 : D 6 = false := hClo.no 6 rfl (k := 5) (by decide) n5
      have n23 : D 23 = false := hClo.no 23 rfl (k := 6) (by decide) n6
      clear hClo hd
      simp only [upd, Act.put, List.setIfInBounds_toArray, List.set_cons_zero, List.set_cons_succ]
      go_wp2_with fail
      refine hK _ _ ⟨bk, ?_, ?_, ?_⟩
      · clear hK
        simp [upd, Act.put, also, *]
      · exact hlow
      · exact fun h => ((hbx (by simpa [also] using h))).of_eq (by simp [also, *])
    · intro D a w' K hClo hk0 hd hJ hK
      change D 3 = false at hk0
      obtain ⟨bk, rfl, hlow, hbx⟩ := hJ
      have e2 : D 2 = true := hd 2 (by decide)
      have n4 : D 4 = false := hClo.no 4 rfl (k := 3) (by decide) hk0
      have n25 : D 25 = false := hClo.no 25 rfl (k := 3) (by decide) hk0
      have n5 : D 5 = false := hClo.no 5 rfl (k := 4) (by decide) n4
      have n6 : D 6 = false := hClo.no 6 rfl (k := 5) (by decide) n5
      have n23 : D 23 = false := hClo.no 23 rfl (k := 6) (by decide) n6
      clear hClo hd
      have y0 := (hlow.b.cell (p := ⟨wz.heap.size, 0, none⟩) hpa).trans x0
      simp only [upd, Act.put, List.setIfInBounds_toArray, List.set_cons_zero, List.set_cons_succ, e2]
      go_wp2_with fail
      refine hK _ _ ⟨bk, ?_, ?_, ?_⟩
      · clear hK
        simp [upd, Act.put, also, *]
      · exact hlow
      · exact fun h => ((hbx (by simpa [also] using h))).of_eq (by simp [also, *])
    · intro D a w' K hClo hk0 hd hJ hK
      change D 4 = false at hk0
      obtain ⟨bk, rfl, hlow, hbx⟩ := hJ
      have e3 : D 3 = true := hd 3 (by decide)
      have n5 : D 5 = false := hClo.no 5 rfl (k := 4) (by decide) hk0
      have n25 : D 25 = false := hClo.no 25 rfl (k := 4) (by decide) hk0
      have n6 : D 6 = false := hClo.no 6 rfl (k := 5) (by decide) n5
      have n23 : D 23 = false := hClo.no 23 rfl (k := 6) (by decide) n6
      clear hClo hd
      simp only [upd, Act.put, List.setIfInBounds_toArray, List.set_cons_zero, List.set_cons_succ, e3]
      go_wp2_with fail
      refine hK _ _ ⟨bk, ?_, ?_, ?_⟩
      · clear hK
        simp [upd, Act.put, also, *]
      · exact hlow
      · exact fun h => ((hbx (by simpa [also] using h))).of_eq (by simp [also, *])
    · intro D a w' K hClo hk0 hd hJ hK
      change D 5 = false at hk0
      obtain ⟨bk, rfl, hlow, hbx⟩ := hJ
      have e4 : D 4 = true := hd 4 (by decide)
      have n6 : D 6 = false := hClo.no 6 rfl (k := 5) (by decide) hk0
      have n25 : D 25 = false := hClo.no 25 rfl (k := 5) (by decide) hk0
      have n23 : D 23 = false := hClo.no 23 rfl (k := 6) (by decide) n6
      clear hClo hd
      simp only [upd, Act.put, List.setIfInBounds_toArray, List.set_cons_zero, List.set_cons_succ, e4]
      go_wp2_with fail
      refine hK _ _ ⟨bk, ?_, ?_, ?_⟩
      · clear hK
        simp [upd, Act.put, also, *]
      · exact hlow
      · exact fun h => ((hbx (by simpa [also] using h))).of_eq (by simp [also, *])
    · intro D a w' K hClo hk0 hd hJ hK
      change D 6 = false at hk0
      obtain ⟨bk, rfl, hlow, hbx⟩ := hJ
      have e1 : D 1 = true := hd 1 (by decide)
      have e5 : D 5 = true := hd 5 (by decide)
      have n23 : D 23 = false := hClo.no 23 rfl (k := 6) (by decide) hk0
      have n25 : D 25 = false := hClo.no 25 rfl (k := 6) (by decide) hk0
      clear hClo hd
      simp only [upd, Act.put, List.setIfInBounds_toArray, List.set_cons_zero, List.set_cons_succ, e1, e5]
      go_wp2_with fail
      refine hK _ _ ⟨bk, ?_, ?_, ?_⟩
      · clear hK
        simp [upd, Act.put, also, *]
      · exact hlow
      · exact fun h => ((hbx (by simpa [also] using h))).of_eq (by simp [also, *])
    · intro D a w' K hClo hk0 hd hJ hK
      change D 7 = false at hk0
      obtain ⟨bk, rfl, hlow, hbx⟩ := hJ
      have n8 : D 8 = false := hClo.no 8 rfl (k := 7) (by decide) hk0
      have n25 : D 25 = false := hClo.no 25 rfl (k := 7) (by decide) hk0
      have n13 : D 13 = false := hClo.no 13 rfl (k := 8) (by decide) n8
      have n23 : D 23 = false := hClo.no 23 rfl (k := 13) (by decide) n13
      clear hClo hd
      simp only [upd, Act.put, List.setIfInBounds_toArray, List.set_cons_zero, List.set_cons_succ]
      go_wp2_with fail
      refine hK _ _ ⟨bk, ?_, ?_, ?_⟩
      · clear hK
        simp [upd, Act.put, also, *]
      · exact hlow
      · exact fun h => ((hbx (by simpa [also] using h))).of_eq (by simp [also, *])
    · intro D a w' K hClo hk0 hd hJ hK
      change D 8 = false at hk0
      obtain ⟨bk, rfl, hlow, hbx⟩ := hJ
      have e7 : D 7 = true := hd 7 (by decide)
      have n13 : D 13 = false := hClo.no 13 rfl (k := 8) (by decide) hk0
      have n25 : D 25 = false := hClo.no 25 rfl (k := 8) (by decide) hk0
      have n23 : D 23 = false := hClo.no 23 rfl (k := 13) (by decide) n13
      clear hClo hd
      have y1 := (hlow.b.cell (p := ⟨wz.heap.size, 1, none⟩) hpa).trans x1
      simp only [upd, Act.put, List.setIfInBounds_toArray, List.set_cons_zero, List.set_cons_succ, e7]
      go_wp2_with fail
      refine hK _ _ ⟨bk, ?_, ?_, ?_⟩
      · clear hK
        simp [upd, Act.put, also, *]
      · exact hlow
      · exact fun h => ((hbx (by simpa [also] using h))).of_eq (by simp [also, *])
    · intro D a w' K hClo hk0 hd hJ hK
      change D 9 = false at hk0
      obtain ⟨bk, rfl, hlow, hbx⟩ := hJ
      have n10 : D 10 = false := hClo.no 10 rfl (k := 9) (by decide) hk0
      have n25 : D 25 = false := hClo.no 25 rfl (k := 9) (by decide) hk0
      have n11 : D 11 = false := hClo.no 11 rfl (k := 10) (by decide) n10
      have n12 : D 12 = false := hClo.no 12 rfl (k := 11) (by decide) n11
      have n13 : D 13 = false := hClo.no 13 rfl (k := 12) (by decide) n12
      have n23 : D 23 = false := hClo.no 23 rfl (k := 13) (by decide) n13
      clear hClo hd
      simp only [upd, Act.put, List.setIfInBounds_toArray, List.set_cons_zero, List.set_cons_succ]
      go_wp2_with fail
      refine hK _ _ ⟨bk, ?_, ?_, ?_⟩
      · clear hK
        simp [upd, Act.put, also, *]
      · exact hlow
      · exact fun h => ((hbx (by simpa [also] using h))).of_eq (by simp [also, *])
    · intro D a w' K hClo hk0 hd hJ hK
      change D 10 = false at hk0
      obtain ⟨bk, rfl, hlow, hbx⟩ := hJ
      have e9 : D 9 = true := hd 9 (by decide)
      have n11 : D 11 = false := hClo.no 11 rfl (k := 10) (by decide) hk0
      have n25 : D 25 = false := hClo.no 25 rfl (k := 10) (by decide) hk0
      have n12 : D 12 = false := hClo.no 12 rfl (k := 11) (by decide) n11
      have n13 : D 13 = false := hClo.no 13 rfl (k := 12) (by decide) n12
      have n23 : D 23 = false := hClo.no 23 rfl (k := 13) (by decide) n13
      clear hClo hd
      have y1 := (hlow.b.cell (p := ⟨wz.heap.size, 1, none⟩) hpa).trans x1
      simp only [upd, Act.put, List.setIfInBounds_toArray, List.set_cons_zero, List.set_cons_succ, e9]
      go_wp2_with fail
      refine hK _ _ ⟨bk, ?_, ?_, ?_⟩
      · clear hK
        simp [upd, Act.put, also, *]
      · exact hlow
      · exact fun h => ((hbx (by simpa [also] using h))).of_eq (by simp [also, *])
    · intro D a w' K hClo hk0 hd hJ hK
      change D 11 = false at hk0
      obtain ⟨bk, rfl, hlow, hbx⟩ := hJ
      have e10 : D 10 = true := hd 10 (by decide)
      have n12 : D 12 = false := hClo.no 12 rfl (k := 11) (by decide) hk0
      have n25 : D 25 = false := hClo.no 25 rfl (k := 11) (by decide) hk0
      have n13 : D 13 = false := hClo.no 13 rfl (k := 12) (by decide) n12
      have n23 : D 23 = false := hClo.no 23 rfl (k := 13) (by decide) n13
      clear hClo hd
      simp only [upd, Act.put, List.setIfInBounds_toArray, List.set_cons_zero, List.set_cons_succ, e10]
      go_wp2_with fail
      refine hK _ _ ⟨bk, ?_, ?_, ?_⟩
      · clear hK
        simp [upd, Act.put, also, *]
      · exact hlow
      · exact fun h => ((hbx (by simpa [also] using h))).of_eq (by simp [also, *])
    · intro D a w' K hClo hk0 hd hJ hK
      change D 12 = false at hk0
      obtain ⟨bk, rfl, hlow, hbx⟩ := hJ
      have e11 : D 11 = true := hd 11 (by decide)
      have n13 : D 13 = false := hClo.no 13 rfl (k := 12) (by decide) hk0
      have n25 : D 25 = false := hClo.no 25 rfl (k := 12) (by decide) hk0
      have n23 : D 23 = false := hClo.no 23 rfl (k := 13) (by decide) n13
      clear hClo hd
      simp only [upd, Act.put, List.setIfInBounds_toArray, List.set_cons_zero, List.set_cons_succ, e11]
      go_wp2_with fail
      refine hK _ _ ⟨bk, ?_, ?_, ?_⟩
      · clear hK
        simp [upd, Act.put, also, *]
      · exact hlow
      · exact fun h => ((hbx (by simpa [also] using h))).of_eq (by simp [also, *])
    · intro D a w' K hClo hk0 hd hJ hK
      change D 13 = false at hk0
      obtain ⟨bk, rfl, hlow, hbx⟩ := hJ
      have e8 : D 8 = true := hd 8 (by decide)
      have e12 : D 12 = true := hd 12 (by decide)
      have n23 : D 23 = false := hClo.no 23 rfl (k := 13) (by decide) hk0
      have n25 : D 25 = false := hClo.no 25 rfl (k := 13) (by decide) hk0
      clear hClo hd
      simp only [upd, Act.put, List.setIfInBounds_toArray, List.set_cons_zero, List.set_cons_succ, e8, e12]
      go_wp2_with fail
      refine hK _ _ ⟨bk, ?_, ?_, ?_⟩
      · clear hK
        simp [upd, Act.put, also, *]
      · exact hlow
      · exact fun h => ((hbx (by simpa [also] using h))).of_eq (by simp [also, *])
    · intro D a w' K hClo hk0 hd hJ hK
      change D 14 = false at hk0
      obtain ⟨bk, rfl, hlow, hbx⟩ := hJ
      have n15 : D 15 = false := hClo.no 15 rfl (k := 14) (by decide) hk0
      have n25 : D 25 = false := hClo.no 25 rfl (k := 14) (by decide) hk0
      have n20 : D 20 = false := hClo.no 20 rfl (k := 15) (by decide) n15
      have n23 : D 23 = false := hClo.no 23 rfl (k := 20) (by decide) n20
      clear hClo hd
      simp only [upd, Act.put, List.setIfInBounds_toArray, List.set_cons_zero, List.set_cons_succ]
      go_wp2_with fail
      refine hK _ _ ⟨bk, ?_, ?_, ?_⟩
      · clear hK
        simp [upd, Act.put, also, *]
      · exact hlow
      · exact fun h => ((hbx (by simpa [also] using h))).of_eq (by simp [also, *])
    · intro D a w' K hClo hk0 hd hJ hK
      change D 15 = false at hk0
      obtain ⟨bk, rfl, hlow, hbx⟩ := hJ
      have e14 : D 14 = true := hd 14 (by decide)
      have n20 : D 20 = false := hClo.no 20 rfl (k := 15) (by decide) hk0
      have n25 : D 25 = false := hClo.no 25 rfl (k := 15) (by decide) hk0
      have n23 : D 23 = false := hClo.no 23 rfl (k := 20) (by decide) n20
      clear hClo hd
      have y2 := (hlow.b.cell (p := ⟨wz.heap.size, 2, none⟩) hpa).trans x2
      simp only [upd, Act.put, List.setIfInBounds_toArray, List.set_cons_zero, List.set_cons_succ, e14]
      go_wp2_with fail
      refine hK _ _ ⟨bk, ?_, ?_, ?_⟩
      · clear hK
        simp [upd, Act.put, also, *]
      · exact hlow
      · exact fun h => ((hbx (by simpa [also] using h))).of_eq (by simp [also, *])
    · intro D a w' K hClo hk0 hd hJ hK
      change D 16 = false at hk0
      obtain ⟨bk, rfl, hlow, hbx⟩ := hJ
      have n17 : D 17 = false := hClo.no 17 rfl (k := 16) (by decide) hk0
      have n25 : D 25 = false := hClo.no 25 rfl (k := 16) (by decide) hk0
      have n18 : D 18 = false := hClo.no 18 rfl (k := 17) (by decide) n17
      have n19 : D 19 = false := hClo.no 19 rfl (k := 18) (by decide) n18
      have n20 : D 20 = false := hClo.no 20 rfl (k := 19) (by decide) n19
      have n23 : D 23 = false := hClo.no 23 rfl (k := 20) (by decide) n20
      clear hClo hd
      simp only [upd, Act.put, List.setIfInBounds_toArray, List.set_cons_zero, List.set_cons_succ]
      go_wp2_with fail
      refine hK _ _ ⟨bk, ?_, ?_, ?_⟩
      · clear hK
        simp [upd, Act.put, also, *]
      · exact hlow
      · exact fun h => ((hbx (by simpa [also] using h))).of_eq (by simp [also, *])
    · intro D a w' K hClo hk0 hd hJ hK
      change D 17 = false at hk0
      obtain ⟨bk, rfl, hlow, hbx⟩ := hJ
      have e16 : D 16 = true := hd 16 (by decide)
      have n18 : D 18 = false := hClo.no 18 rfl (k := 17) (by decide) hk0
      have n25 : D 25 = false := hClo.no 25 rfl (k := 17) (by decide) hk0
      have n19 : D 19 = false := hClo.no 19 rfl (k := 18) (by decide) n18
      have n20 : D 20 = false := hClo.no 20 rfl (k := 19) (by decide) n19
      have n23 : D 23 = false := hClo.no 23 rfl (k := 20) (by decide) n20
      clear hClo hd
      have y2 := (hlow.b.cell (p := ⟨wz.heap.size, 2, none⟩) hpa).trans x2
      simp only [upd, Act.put, List.setIfInBounds_toArray, List.set_cons_zero, List.set_cons_succ, e16]
      go_wp2_with fail
      refine hK _ _ ⟨bk, ?_, ?_, ?_⟩
      · clear hK
        simp [upd, Act.put, also, *]
      · exact hlow
      · exact fun h => ((hbx (by simpa [also] using h))).of_eq (by simp [also, *])
    · intro D a w' K hClo hk0 hd hJ hK
      change D 18 = false at hk0
      obtain ⟨bk, rfl, hlow, hbx⟩ := hJ
      have e17 : D 17 = true := hd 17 (by decide)
      have n19 : D 19 = false := hClo.no 19 rfl (k := 18) (by decide) hk0
      have n25 : D 25 = false := hClo.no 25 rfl (k := 18) (by decide) hk0
      have n20 : D 20 = false := hClo.no 20 rfl (k := 19) (by decide) n19
      have n23 : D 23 = false := hClo.no 23 rfl (k := 20) (by decide) n20
      clear hClo hd
      simp only [upd, Act.put, List.setIfInBounds_toArray, List.set_cons_zero, List.set_cons_succ, e17]
      go_wp2_with fail
      refine hK _ _ ⟨bk, ?_, ?_, ?_⟩
      · clear hK
        simp [upd, Act.put, also, *]
      · exact hlow
      · exact fun h => ((hbx (by simpa [also] using h))).of_eq (by simp [also, *])
    · intro D a w' K hClo hk0 hd hJ hK
      change D 19 = false at hk0
      obtain ⟨bk, rfl, hlow, hbx⟩ := hJ
      have e18 : D 18 = true := hd 18 (by decide)
      have n20 : D 20 = false := hClo.no 20 rfl (k := 19) (by decide) hk0
      have n25 : D 25 = false := hClo.no 25 rfl (k := 19) (by decide) hk0
      have n23 : D 23 = false := hClo.no 23 rfl (k := 20) (by decide) n20
      clear hClo hd
      simp only [upd, Act.put, List.setIfInBounds_toArray, List.set_cons_zero, List.set_cons_succ, e18]
      go_wp2_with fail
      refine hK _ _ ⟨bk, ?_, ?_, ?_⟩
      · clear hK
        simp [upd, Act.put, also, *]
      · exact hlow
      · exact fun h => ((hbx (by simpa [also] using h))).of_eq (by simp [also, *])
    · intro D a w' K hClo hk0 hd hJ hK
      change D 20 = false at hk0
      obtain ⟨bk, rfl, hlow, hbx⟩ := hJ
      have e15 : D 15 = true := hd 15 (by decide)
      have e19 : D 19 = true := hd 19 (by decide)
      have n23 : D 23 = false := hClo.no 23 rfl (k := 20) (by decide) hk0
      have n25 : D 25 = false := hClo.no 25 rfl (k := 20) (by decide) hk0
      clear hClo hd
      simp only [upd, Act.put, List.setIfInBounds_toArray, List.set_cons_zero, List.set_cons_succ, e15, e19]
      go_wp2_with fail
      refine hK _ _ ⟨bk, ?_, ?_, ?_⟩
      · clear hK
        simp [upd, Act.put, also, *]
      · exact hlow
      · exact fun h => ((hbx (by simpa [also] using h))).of_eq (by simp [also, *])
    · intro D a w' K hClo hk0 hd hJ hK
      change D 21 = false at hk0
      obtain ⟨bk, rfl, hlow, hbx⟩ := hJ
      have n22 : D 22 = false := hClo.no 22 rfl (k := 21) (by decide) hk0
      have n25 : D 25 = false := hClo.no 25 rfl (k := 21) (by decide) hk0
      have n23 : D 23 = false := hClo.no 23 rfl (k := 22) (by decide) n22
      clear hClo hd
      simp only [upd, Act.put, List.setIfInBounds_toArray, List.set_cons_zero, List.set_cons_succ]
      go_wp2_with fail
      refine hK _ _ ⟨bk, ?_, ?_, ?_⟩
      · clear hK
        simp [upd, Act.put, also, *]
      · exact hlow
      · exact fun h => ((hbx (by simpa [also] using h))).of_eq (by simp [also, *])
    · intro D a w' K hClo hk0 hd hJ hK
      change D 22 = false at hk0
      obtain ⟨bk, rfl, hlow, hbx⟩ := hJ
      have e21 : D 21 = true := hd 21 (by decide)
      have n23 : D 23 = false := hClo.no 23 rfl (k := 22) (by decide) hk0
      have n25 : D 25 = false := hClo.no 25 rfl (k := 22) (by decide) hk0
      clear hClo hd
      have y3 := (hlow.b.cell (p := ⟨wz.heap.size, 3, none⟩) hpa).trans x3
      have y4 := (hlow.b.cell (p := ⟨wz.heap.size, 4, none⟩) hpa).trans x4
      have y5 := (hlow.b.cell (p := ⟨wz.heap.size, 5, none⟩) hpa).trans x5
      simp only [upd, Act.put, List.setIfInBounds_toArray, List.set_cons_zero, List.set_cons_succ, e21]
      go_wp2_with fail
      refine hK _ _ ⟨bk, ?_, ?_, ?_⟩
      · clear hK
        simp [upd, Act.put, also, *]
      · exact hlow
      · exact fun h => ((hbx (by simpa [also] using h))).of_eq (by simp [also, *])
    · intro D a w' K hClo hk0 hd hJ hK
      change D 23 = false at hk0
      obtain ⟨bk, rfl, hlow, hbx⟩ := hJ
      have e6 : D 6 = true := hd 6 (by decide)
      have e13 : D 13 = true := hd 13 (by decide)
      have e20 : D 20 = true := hd 20 (by decide)
      have e22 : D 22 = true := hd 22 (by decide)
      have n25 : D 25 = false := hClo.no 25 rfl (k := 23) (by decide) hk0
      clear hClo hd
      simp only [upd, Act.put, List.setIfInBounds_toArray, List.set_cons_zero, List.set_cons_succ, e6, e13, e20, e22]
      go_wp2_with fail
      refine hK _ _ ⟨bk, ?_, ?_, ?_⟩
      · clear hK
        simp [upd, Act.put, also, *]
      · exact hlow
      · exact fun h => ((hbx (by simpa [also] using h))).of_eq (by simp [also, *])
    · intro D a w' K hClo hk0 hd hJ hK
      change D 24 = false at hk0
      obtain ⟨bk, rfl, hlow, hbx⟩ := hJ
      have n25 : D 25 = false := hClo.no 25 rfl (k := 24) (by decide) hk0
      clear hClo hd
      simp only [upd, Act.put, List.setIfInBounds_toArray, List.set_cons_zero, List.set_cons_succ]
      go_wp2_with fail
      refine hK _ _ ⟨w'.heap.size, ?_, ?_, ?_⟩
      · clear hK
        simp [upd, Act.put, also, *]
      · exact hlow.alloc _
      · exact fun _ => (Has.new hlow.size 50 _).of_eq (by simp [also, n25])
    · intro D a w' K hClo hk0 hd hJ hK
      change D 25 = false at hk0
      obtain ⟨bk, rfl, hlow, hbx⟩ := hJ
      have e0 : D 0 = true := hd 0 (by decide)
      have e1 : D 1 = true := hd 1 (by decide)
      have e2 : D 2 = true := hd 2 (by decide)
      have e3 : D 3 = true := hd 3 (by decide)
      have e4 : D 4 = true := hd 4 (by decide)
      have e5 : D 5 = true := hd 5 (by decide)
      have e6 : D 6 = true := hd 6 (by decide)
      have e7 : D 7 = true := hd 7 (by decide)
      have e8 : D 8 = true := hd 8 (by decide)
      have e9 : D 9 = true := hd 9 (by decide)
      have e10 : D 10 = true := hd 10 (by decide)
      have e11 : D 11 = true := hd 11 (by decide)
      have e12 : D 12 = true := hd 12 (by decide)
      have e13 : D 13 = true := hd 13 (by decide)
      have e14 : D 14 = true := hd 14 (by decide)
      have e15 : D 15 = true := hd 15 (by decide)
      have e16 : D 16 = true := hd 16 (by decide)
      have e17 : D 17 = true := hd 17 (by decide)
      have e18 : D 18 = true := hd 18 (by decide)
      have e19 : D 19 = true := hd 19 (by decide)
      have e20 : D 20 = true := hd 20 (by decide)
      have e21 : D 21 = true := hd 21 (by decide)
      have e22 : D 22 = true := hd 22 (by decide)
      have e23 : D 23 = true := hd 23 (by decide)
      have e24 : D 24 = true := hd 24 (by decide)
      clear hClo hd
      have hbx1 : Has W w' bk 50 #[.string ⟨#[]⟩, .string ⟨#[]⟩, .string ⟨#[]⟩, .int .i64 0, .int .i64 0, .int .i64 0, .slice none 0 0] := (hbx e24).of_eq (by rw [hk0]; rfl)
      have hge := hbx1.ge
      have c0 := hbx1.cell 0
      have f0 := hbx1.frozen 0
      have c1 := hbx1.cell 1
      have f1 := hbx1.frozen 1
      have c2 := hbx1.cell 2
      have f2 := hbx1.frozen 2
      have c3 := hbx1.cell 3
      have f3 := hbx1.frozen 3
      have c4 := hbx1.cell 4
      have f4 := hbx1.frozen 4
      have c5 := hbx1.cell 5
      have f5 := hbx1.frozen 5
      have c6 := hbx1.cell 6
      have f6 := hbx1.frozen 6
      simp only [List.getElem?_toArray, List.getElem?_cons_zero, List.getElem?_cons_succ] at c0 c1 c2 c3 c4 c5 c6
      have Hbx := hide hbx1
      clear hbx1 hbx
      simp only [upd, Act.put, List.setIfInBounds_toArray, List.set_cons_zero, List.set_cons_succ, e0, e1, e2, e3, e4, e5, e6, e7, e8, e9, e10, e11, e12, e13, e14, e15, e16, e17, e18, e19, e20, e21, e22, e23, e24]
      go_wp2_with fail
      refine hK _ _ ⟨bk, ?_, ?_, ?_⟩
      · clear hK
        simp [upd, Act.put, also, *]
      · iterate 7 (refine Low.far ?_ hge _)
        exact hlow
      · exact fun _ => (((((((Hbx.out.set_ 0 _).set_ 1 _).set_ 2 _).set_ 3 _).set_ 4 _).set_ 5 _).set_ 6 _).of_eq (by simp [also])
  · intro D a' w3 hall hJ
    obtain ⟨bk, rfl, hlow, hbx⟩ := hJ
    have e0 : D 0 = true := hall 0 (by decide)
    have e1 : D 1 = true := hall 1 (by decide)
    have e2 : D 2 = true := hall 2 (by decide)
    have e3 : D 3 = true := hall 3 (by decide)
    have e4 : D 4 = true := hall 4 (by decide)
    have e5 : D 5 = true := hall 5 (by decide)
    have e6 : D 6 = true := hall 6 (by decide)
    have e7 : D 7 = true := hall 7 (by decide)
    have e8 : D 8 = true := hall 8 (by decide)
    have e9 : D 9 = true := hall 9 (by decide)
    have e10 : D 10 = true := hall 10 (by decide)
    have e11 : D 11 = true := hall 11 (by decide)
    have e12 : D 12 = true := hall 12 (by decide)
    have e13 : D 13 = true := hall 13 (by decide)
    have e14 : D 14 = true := hall 14 (by decide)
    have e15 : D 15 = true := hall 15 (by decide)
    have e16 : D 16 = true := hall 16 (by decide)
    have e17 : D 17 = true := hall 17 (by decide)
    have e18 : D 18 = true := hall 18 (by decide)
    have e19 : D 19 = true := hall 19 (by decide)
    have e20 : D 20 = true := hall 20 (by decide)
    have e21 : D 21 = true := hall 21 (by decide)
    have e22 : D 22 = true := hall 22 (by decide)
    have e23 : D 23 = true := hall 23 (by decide)
    have e24 : D 24 = true := hall 24 (by decide)
    have e25 : D 25 = true := hall 25 (by decide)
    clear hall
    replace hbx := hbx e24
    replace hbx : Has W w3 bk 50 #[.string (id.extract 0 q1), .string (cd.extract 0 q2), .string (br.extract 0 q3), .int .i64 d, .int .i64 m, .int .i64 am, .slice none 0 0] := hbx.of_eq (by simp [*])
    simp only [upd, Act.put, List.setIfInBounds_toArray, List.set_cons_zero, List.set_cons_succ, sel_true, e0, e1, e2, e3, e4, e5, e6, e7, e8, e9, e10, e11, e12, e13, e14, e15, e16, e17, e18, e19, e20, e21, e22, e23, e24]
    clear e0 e1 e2 e3 e4 e5 e6 e7 e8 e9 e10 e11 e12 e13 e14 e15 e16 e17 e18 e19 e20 e21 e22 e23 e24 e25
    have hb3 := HBW.out.trans (hlow.b.mono HBW.out.size)
    have hzr3 : Has wz w3 (wz.heap.size + 1) 50 #[.string ⟨#[]⟩, .string ⟨#[]⟩, .string ⟨#[]⟩, .int .i64 0, .int .i64 0, .int .i64 0, .slice none 0 0] := ⟨by omega, HYW.out.below hlow.b (by omega)⟩
    have hbk3 : Has wz w3 bk 50 #[.string (id.extract 0 q1), .string (cd.extract 0 q2), .string (br.extract 0 q3), .int .i64 d, .int .i64 m, .int .i64 am, .slice none 0 0] := ⟨by have := hbx.ge; omega, hbx.blk⟩
    have hbkg := hbx.ge
    have x6' := (hlow.b.cell (p := ⟨wz.heap.size, 6, none⟩) hpa).trans x6
    have q2s : (cd.extract 0 q2).size ≤ 30 := by rw [ByteArray.size_extract]; have := Y2.out; omega
    have q3s : (br.extract 0 q3).size ≤ 30 := by rw [ByteArray.size_extract]; have := Y3.out; omega
    generalize id.extract 0 q1 = i1 at hbk3 ⊢
    generalize cd.extract 0 q2 = i2 at hbk3 q2s ⊢
    generalize br.extract 0 q3 = i3 at hbk3 q3s ⊢
    have Q2 := hide q2s
    have Q3 := hide q3s
    have HZ3 := hide hzr3
    have HK3 := hide hbk3
    have HB3 := hide hb3
    have HR3 := hide (hr0.below (hb3.mono hB))
    have HGE := hide hbkg
    clear q2s q3s hzr3 hbk3 hb3 hbx hlow hbkg x0 x1 x2 x3 x4 x5 x6 m1 m2 m3 z1 z2 z3 y1 y2 y3 hr0
    go_wp2
    go_loopw [38] (fun i wr => ∃ (k : Nat) (N : List Lk) (Av : Option Addr) (cv : Nat), k ≤ q ∧ i = .int .i64 k ∧ Hid (N.length = k) ∧ Hid (∀ r ∈ N, r.1.size ≤ 30 ∧ r.2.size ≤ 30) ∧ Hid (Owns wr wz.heap.size 57 2 (.slice Av k cv) k (N.flatMap lc)) ∧ Hid (Has wz wr bk 50 #[.string i1, .string i2, .string i3, .int .i64 d, .int .i64 m, .int .i64 am, .slice Av k cv]) ∧ Hid (Has wz wr (wz.heap.size + 1) 50 #[.string ⟨#[]⟩, .string ⟨#[]⟩, .string ⟨#[]⟩, .int .i64 0, .int .i64 0, .int .i64 0, .slice none 0 0]) ∧ Hid (Low wz wr)) (fun i _ => q - (intOf i).toNat)
    case atStart => exact ⟨0, [], none, 0, Nat.zero_le _, rfl, rfl, (show ∀ r ∈ ([] : List Lk), r.1.size ≤ 30 ∧ r.2.size ≤ 30 from fun r hr => by cases hr), (show Owns _ _ _ _ _ _ _ from ⟨ownsRow_nil' _ _ _ _⟩), HK3.out, HZ3.out, (show Low _ _ from ⟨HB3.out⟩)⟩
    case round =>
      obtain ⟨k, N, Av, cv, hk, rfl, HNl, HNs, HO, HK, HZ, HLo⟩ := hrel
      have hzr := HLo.out.size
      by_cases hlt : k < q
      · obtain ⟨ad, x, rfl, hab, hX, c0, cj⟩ := ((show Recs lc 2 wr B A q M from HR3.out.keep (fun p hp => (HLo.out.b.cell (by omega)).trans (HB3.out.cell (by omega)).symm))).at_ lc_len (by omega) hlt
        have c1 := cj 1 (by omega) (by omega)
        obtain ⟨x1, x2⟩ := x
        simp only [lc, List.getElem?_cons_zero, List.getElem?_cons_succ] at c0 c1
        clear cj hX
        have m1 : min (x1.size : Int) 30 = ((min x1.size 30 : Nat) : Int) := by omega
        have m2 : min (x2.size : Int) 30 = ((min x2.size 30 : Nat) : Int) := by omega
        have g1 : min x1.size 30 ≤ x1.size := Nat.min_le_left _ _
        have g2 : min x2.size 30 ≤ x2.size := Nat.min_le_left _ _
        have g3 : min x1.size 30 ≤ 30 := Nat.min_le_right _ _
        have g4 : min x2.size 30 ≤ 30 := Nat.min_le_right _ _
        generalize min x1.size 30 = s1 at m1 g1 g3
        generalize min x2.size 30 = s2 at m2 g2 g4
        have z1 : (s1 : Int) ≤ (x1.size : Int) := by omega
        have z2 : (s2 : Int) ≤ (x2.size : Int) := by omega
        have G3 := hide g3
        have G4 := hide g4
        clear g3 g4
        go_upto_region 5 with (fail)
        have hlowW : Low wz (wr.alloc (.cells #[.string x1, .string x2] 57)) := HLo.out.alloc _
        have hzrW := HZ.out.alloc (.cells #[.string x1, .string x2] 57)
        have hbaW : Has wz (wr.alloc (.cells #[.string x1, .string x2] 57)) wr.heap.size 57 #[.string x1, .string x2] := Has.new hzr 57 _
        have howW := HO.out.alloc (.cells #[.string x1, .string x2] 57)
        have hbkW := HK.out.alloc (.cells #[.string x1, .string x2] 57)
        have hk14 : k ≤ 1000 := by omega
        have hbkne : bk ≠ wz.heap.size + 1 := by have := HGE.out; omega
        generalize wr.alloc (.cells #[.string x1, .string x2] 57) = WA at hlowW hzrW hbaW howW hbkW ⊢
        generalize wr.heap.size = ha at hbaW ⊢
        clear c0 c1
        refine wp_region_each (fun a0 D a w => ∃ (eb : Nat) (A2 : Option Addr) (cv2 : Nat), a = upd a0 [(42, sel (D 0) (.pointer (some ⟨bk, 6, none⟩)) u42), (43, sel (D 1) (.slice Av k cv) u43), (44, sel (D 2) (.pointer (some ⟨ha, 0, none⟩)) u44), (45, sel (D 3) (.string x1) u45), (46, sel (D 4) (.pointer (some ⟨ha, 0, none⟩)) u46), (47, sel (D 5) (.string x1) u47), (48, sel (D 6) (.int .i64 (x1.size : Int)) u48), (49, sel (D 7) (.int .i64 (s1 : Int)) u49), (50, sel (D 8) (.string (x1.extract 0 s1)) u50), (51, sel (D 9) (.pointer (some ⟨ha, 1, none⟩)) u51), (52, sel (D 10) (.string x2) u52), (53, sel (D 11) (.pointer (some ⟨ha, 1, none⟩)) u53), (54, sel (D 12) (.string x2) u54), (55, sel (D 13) (.int .i64 (x2.size : Int)) u55), (56, sel (D 14) (.int .i64 (s2 : Int)) u56), (57, sel (D 15) (.string (x2.extract 0 s2)) u57), (58, sel (D 16) (.agg #[.string (x1.extract 0 s1), .string (x2.extract 0 s2)]) u58), (59, sel (D 17) (.slice (some ⟨eb, 0, none⟩) 1 1) u59), (60, sel (D 18) (.slice A2 (k + 1) cv2) u60), (61, sel (D 19) (.pointer (some ⟨bk, 6, none⟩)) u61)] ∧ (Low wz w) ∧ (Has wz w (wz.heap.size + 1) 50 #[.string ⟨#[]⟩, .string ⟨#[]⟩, .string ⟨#[]⟩, .int .i64 0, .int .i64 0, .int .i64 0, .slice none 0 0]) ∧ (D 18 = false → Has wz w ha 57 #[.string x1, .string x2]) ∧ (D 18 = false → Owns w wz.heap.size 57 2 (.slice Av k cv) k (N.flatMap lc)) ∧ (D 17 = true → D 18 = false → Has wz w eb 57 #[.string (x1.extract 0 s1), .string (x2.extract 0 s2)]) ∧ (D 18 = true → Owns w wz.heap.size 57 2 (.slice A2 (k + 1) cv2) (k + 1) (N.flatMap lc ++ (#[.string (x1.extract 0 s1), .string (x2.extract 0 s2)] : Array Value).toList)) ∧ (Has wz w bk 50 (bif D 20 then #[.string i1, .string i2, .string i3, .int .i64 d, .int .i64 m, .int .i64 am, .slice A2 (k + 1) cv2] else #[.string i1, .string i2, .string i3, .int .i64 d, .int .i64 m, .int .i64 am, .slice Av k cv]))) (by kernel_rfl) (by kernel_rfl) ?_ ?_ ?_
        · refine ⟨0, none, 0, ?_, hlowW.drew, hzrW.drew, fun _ => hbaW.drew, fun _ => howW.drew, fun h => Bool.noConfusion h, fun h => Bool.noConfusion h, hbkW.drew⟩
          simp [upd, Act.put]
        · refine ⟨?_, ?_, ?_, ?_, ?_, ?_, ?_, ?_, ?_, ?_, ?_, ?_, ?_, ?_, ?_, ?_, ?_, ?_, ?_, ?_, ?_, trivial⟩
          · intro D a w' K hClo hk0 hd hJ hK
            change D 0 = false at hk0
            obtain ⟨eb, A2, cv2, rfl, hlow, hzr, hba, how, hli, hnw, hbk⟩ := hJ
            have n1 : D 1 = false := hClo.no 1 rfl (k := 0) (by decide) hk0
            have n19 : D 19 = false := hClo.no 19 rfl (k := 0) (by decide) hk0
            have n20 : D 20 = false := hClo.no 20 rfl (k := 0) (by decide) hk0
            have n18 : D 18 = false := hClo.no 18 rfl (k := 1) (by decide) n1
            clear hClo hd
            simp only [upd, Act.put, List.setIfInBounds_toArray, List.set_cons_zero, List.set_cons_succ]
            go_wp2_with fail
            refine hK _ _ ⟨eb, A2, cv2, ?_, ?_, ?_, ?_, ?_, ?_, ?_, ?_⟩
            · clear hK
              simp [upd, Act.put, also, *]
            · exact hlow
            · exact hzr
            · exact fun h' => (hba (by simpa [also] using h'))
            · exact fun h' => (how (by simpa [also] using h'))
            · exact fun h h' => (hli (by simpa [also] using h) (by simpa [also] using h'))
            · exact fun h => by simp [also, *] at h
            · exact (hbk).of_eq (by simp [also, *])
          · intro D a w' K hClo hk0 hd hJ hK
            change D 1 = false at hk0
            obtain ⟨eb, A2, cv2, rfl, hlow, hzr, hba, how, hli, hnw, hbk⟩ := hJ
            have e0 : D 0 = true := hd 0 (by decide)
            have n18 : D 18 = false := hClo.no 18 rfl (k := 1) (by decide) hk0
            have n19 : D 19 = false := hClo.no 19 rfl (k := 1) (by decide) hk0
            have n20 : D 20 = false := hClo.no 20 rfl (k := 1) (by decide) hk0
            clear hClo hd
            have hbk1 : Has wz w' bk 50 #[.string i1, .string i2, .string i3, .int .i64 d, .int .i64 m, .int .i64 am, .slice Av k cv] := hbk.of_eq (by rw [n20]; rfl)
            have y6 := hbk1.cell 6
            simp only [List.getElem?_toArray, List.getElem?_cons_zero, List.getElem?_cons_succ] at y6
            simp only [upd, Act.put, List.setIfInBounds_toArray, List.set_cons_zero, List.set_cons_succ, e0]
            go_wp2_with fail
            refine hK _ _ ⟨eb, A2, cv2, ?_, ?_, ?_, ?_, ?_, ?_, ?_, ?_⟩
            · clear hK
              simp [upd, Act.put, also, *]
            · exact hlow
            · exact hzr
            · exact fun h' => (hba (by simpa [also] using h'))
            · exact fun h' => (how (by simpa [also] using h'))
            · exact fun h h' => (hli (by simpa [also] using h) (by simpa [also] using h'))
            · exact fun h => by simp [also, *] at h
            · exact (hbk).of_eq (by simp [also, *])
          · intro D a w' K hClo hk0 hd hJ hK
            change D 2 = false at hk0
            obtain ⟨eb, A2, cv2, rfl, hlow, hzr, hba, how, hli, hnw, hbk⟩ := hJ
            have n3 : D 3 = false := hClo.no 3 rfl (k := 2) (by decide) hk0
            have n19 : D 19 = false := hClo.no 19 rfl (k := 2) (by decide) hk0
            have n20 : D 20 = false := hClo.no 20 rfl (k := 2) (by decide) hk0
            have n8 : D 8 = false := hClo.no 8 rfl (k := 3) (by decide) n3
            have n16 : D 16 = false := hClo.no 16 rfl (k := 8) (by decide) n8
            have n17 : D 17 = false := hClo.no 17 rfl (k := 16) (by decide) n16
            have n18 : D 18 = false := hClo.no 18 rfl (k := 17) (by decide) n17
            clear hClo hd
            simp only [upd, Act.put, List.setIfInBounds_toArray, List.set_cons_zero, List.set_cons_succ]
            go_wp2_with fail
            refine hK _ _ ⟨eb, A2, cv2, ?_, ?_, ?_, ?_, ?_, ?_, ?_, ?_⟩
            · clear hK
              simp [upd, Act.put, also, *]
            · exact hlow
            · exact hzr
            · exact fun h' => (hba (by simpa [also] using h'))
            · exact fun h' => (how (by simpa [also] using h'))
            · exact fun h => by simp [also, *] at h
            · exact fun h => by simp [also, *] at h
            · exact (hbk).of_eq (by simp [also, *])
          · intro D a w' K hClo hk0 hd hJ hK
            change D 3 = false at hk0
            obtain ⟨eb, A2, cv2, rfl, hlow, hzr, hba, how, hli, hnw, hbk⟩ := hJ
            have e2 : D 2 = true := hd 2 (by decide)
            have n8 : D 8 = false := hClo.no 8 rfl (k := 3) (by decide) hk0
            have n19 : D 19 = false := hClo.no 19 rfl (k := 3) (by decide) hk0
            have n20 : D 20 = false := hClo.no 20 rfl (k := 3) (by decide) hk0
            have n16 : D 16 = false := hClo.no 16 rfl (k := 8) (by decide) n8
            have n17 : D 17 = false := hClo.no 17 rfl (k := 16) (by decide) n16
            have n18 : D 18 = false := hClo.no 18 rfl (k := 17) (by decide) n17
            clear hClo hd
            have y0 := (hba n18).cell 0
            simp only [List.getElem?_toArray, List.getElem?_cons_zero] at y0
            simp only [upd, Act.put, List.setIfInBounds_toArray, List.set_cons_zero, List.set_cons_succ, e2]
            go_wp2_with fail
            refine hK _ _ ⟨eb, A2, cv2, ?_, ?_, ?_, ?_, ?_, ?_, ?_, ?_⟩
            · clear hK
              simp [upd, Act.put, also, *]
            · exact hlow
            · exact hzr
            · exact fun h' => (hba (by simpa [also] using h'))
            · exact fun h' => (how (by simpa [also] using h'))
            · exact fun h => by simp [also, *] at h
            · exact fun h => by simp [also, *] at h
            · exact (hbk).of_eq (by simp [also, *])
          · intro D a w' K hClo hk0 hd hJ hK
            change D 4 = false at hk0
            obtain ⟨eb, A2, cv2, rfl, hlow, hzr, hba, how, hli, hnw, hbk⟩ := hJ
            have n5 : D 5 = false := hClo.no 5 rfl (k := 4) (by decide) hk0
            have n19 : D 19 = false := hClo.no 19 rfl (k := 4) (by decide) hk0
            have n20 : D 20 = false := hClo.no 20 rfl (k := 4) (by decide) hk0
            have n6 : D 6 = false := hClo.no 6 rfl (k := 5) (by decide) n5
            have n7 : D 7 = false := hClo.no 7 rfl (k := 6) (by decide) n6
            have n8 : D 8 = false := hClo.no 8 rfl (k := 7) (by decide) n7
            have n16 : D 16 = false := hClo.no 16 rfl (k := 8) (by decide) n8
            have n17 : D 17 = false := hClo.no 17 rfl (k := 16) (by decide) n16
            have n18 : D 18 = false := hClo.no 18 rfl (k := 17) (by decide) n17
            clear hClo hd
            simp only [upd, Act.put, List.setIfInBounds_toArray, List.set_cons_zero, List.set_cons_succ]
            go_wp2_with fail
            refine hK _ _ ⟨eb, A2, cv2, ?_, ?_, ?_, ?_, ?_, ?_, ?_, ?_⟩
            · clear hK
              simp [upd, Act.put, also, *]
            · exact hlow
            · exact hzr
            · exact fun h' => (hba (by simpa [also] using h'))
            · exact fun h' => (how (by simpa [also] using h'))
            · exact fun h => by simp [also, *] at h
            · exact fun h => by simp [also, *] at h
            · exact (hbk).of_eq (by simp [also, *])
          · intro D a w' K hClo hk0 hd hJ hK
            change D 5 = false at hk0
            obtain ⟨eb, A2, cv2, rfl, hlow, hzr, hba, how, hli, hnw, hbk⟩ := hJ
            have e4 : D 4 = true := hd 4 (by decide)
            have n6 : D 6 = false := hClo.no 6 rfl (k := 5) (by decide) hk0
            have n19 : D 19 = false := hClo.no 19 rfl (k := 5) (by decide) hk0
            have n20 : D 20 = false := hClo.no 20 rfl (k := 5) (by decide) hk0
            have n7 : D 7 = false := hClo.no 7 rfl (k := 6) (by decide) n6
            have n8 : D 8 = false := hClo.no 8 rfl (k := 7) (by decide) n7
            have n16 : D 16 = false := hClo.no 16 rfl (k := 8) (by decide) n8
            have n17 : D 17 = false := hClo.no 17 rfl (k := 16) (by decide) n16
            have n18 : D 18 = false := hClo.no 18 rfl (k := 17) (by decide) n17
            clear hClo hd
            have y0 := (hba n18).cell 0
            simp only [List.getElem?_toArray, List.getElem?_cons_zero] at y0
            simp only [upd, Act.put, List.setIfInBounds_toArray, List.set_cons_zero, List.set_cons_succ, e4]
            go_wp2_with fail
            refine hK _ _ ⟨eb, A2, cv2, ?_, ?_, ?_, ?_, ?_, ?_, ?_, ?_⟩
            · clear hK
              simp [upd, Act.put, also, *]
            · exact hlow
            · exact hzr
            · exact fun h' => (hba (by simpa [also] using h'))
            · exact fun h' => (how (by simpa [also] using h'))
            · exact fun h => by simp [also, *] at h
            · exact fun h => by simp [also, *] at h
            · exact (hbk).of_eq (by simp [also, *])
          · intro D a w' K hClo hk0 hd hJ hK
            change D 6 = false at hk0
            obtain ⟨eb, A2, cv2, rfl, hlow, hzr, hba, how, hli, hnw, hbk⟩ := hJ
            have e5 : D 5 = true := hd 5 (by decide)
            have n7 : D 7 = false := hClo.no 7 rfl (k := 6) (by decide) hk0
            have n19 : D 19 = false := hClo.no 19 rfl (k := 6) (by decide) hk0
            have n20 : D 20 = false := hClo.no 20 rfl (k := 6) (by decide) hk0
            have n8 : D 8 = false := hClo.no 8 rfl (k := 7) (by decide) n7
            have n16 : D 16 = false := hClo.no 16 rfl (k := 8) (by decide) n8
            have n17 : D 17 = false := hClo.no 17 rfl (k := 16) (by decide) n16
            have n18 : D 18 = false := hClo.no 18 rfl (k := 17) (by decide) n17
            clear hClo hd
            simp only [upd, Act.put, List.setIfInBounds_toArray, List.set_cons_zero, List.set_cons_succ, e5]
            go_wp2_with fail
            refine hK _ _ ⟨eb, A2, cv2, ?_, ?_, ?_, ?_, ?_, ?_, ?_, ?_⟩
            · clear hK
              simp [upd, Act.put, also, *]
            · exact hlow
            · exact hzr
            · exact fun h' => (hba (by simpa [also] using h'))
            · exact fun h' => (how (by simpa [also] using h'))
            · exact fun h => by simp [also, *] at h
            · exact fun h => by simp [also, *] at h
            · exact (hbk).of_eq (by simp [also, *])
          · intro D a w' K hClo hk0 hd hJ hK
            change D 7 = false at hk0
            obtain ⟨eb, A2, cv2, rfl, hlow, hzr, hba, how, hli, hnw, hbk⟩ := hJ
            have e6 : D 6 = true := hd 6 (by decide)
            have n8 : D 8 = false := hClo.no 8 rfl (k := 7) (by decide) hk0
            have n19 : D 19 = false := hClo.no 19 rfl (k := 7) (by decide) hk0
            have n20 : D 20 = false := hClo.no 20 rfl (k := 7) (by decide) hk0
            have n16 : D 16 = false := hClo.no 16 rfl (k := 8) (by decide) n8
            have n17 : D 17 = false := hClo.no 17 rfl (k := 16) (by decide) n16
            have n18 : D 18 = false := hClo.no 18 rfl (k := 17) (by decide) n17
            clear hClo hd
            simp only [upd, Act.put, List.setIfInBounds_toArray, List.set_cons_zero, List.set_cons_succ, e6]
            go_wp2_with fail
            refine hK _ _ ⟨eb, A2, cv2, ?_, ?_, ?_, ?_, ?_, ?_, ?_, ?_⟩
            · clear hK
              simp [upd, Act.put, also, *]
            · exact hlow
            · exact hzr
            · exact fun h' => (hba (by simpa [also] using h'))
            · exact fun h' => (how (by simpa [also] using h'))
            · exact fun h => by simp [also, *] at h
            · exact fun h => by simp [also, *] at h
            · exact (hbk).of_eq (by simp [also, *])
          · intro D a w' K hClo hk0 hd hJ hK
            change D 8 = false at hk0
            obtain ⟨eb, A2, cv2, rfl, hlow, hzr, hba, how, hli, hnw, hbk⟩ := hJ
            have e3 : D 3 = true := hd 3 (by decide)
            have e7 : D 7 = true := hd 7 (by decide)
            have n16 : D 16 = false := hClo.no 16 rfl (k := 8) (by decide) hk0
            have n19 : D 19 = false := hClo.no 19 rfl (k := 8) (by decide) hk0
            have n20 : D 20 = false := hClo.no 20 rfl (k := 8) (by decide) hk0
            have n17 : D 17 = false := hClo.no 17 rfl (k := 16) (by decide) n16
            have n18 : D 18 = false := hClo.no 18 rfl (k := 17) (by decide) n17
            clear hClo hd
            simp only [upd, Act.put, List.setIfInBounds_toArray, List.set_cons_zero, List.set_cons_succ, e3, e7]
            go_wp2_with fail
            refine hK _ _ ⟨eb, A2, cv2, ?_, ?_, ?_, ?_, ?_, ?_, ?_, ?_⟩
            · clear hK
              simp [upd, Act.put, also, *]
            · exact hlow
            · exact hzr
            · exact fun h' => (hba (by simpa [also] using h'))
            · exact fun h' => (how (by simpa [also] using h'))
            · exact fun h => by simp [also, *] at h
            · exact fun h => by simp [also, *] at h
            · exact (hbk).of_eq (by simp [also, *])
          · intro D a w' K hClo hk0 hd hJ hK
            change D 9 = false at hk0
            obtain ⟨eb, A2, cv2, rfl, hlow, hzr, hba, how, hli, hnw, hbk⟩ := hJ
            have n10 : D 10 = false := hClo.no 10 rfl (k := 9) (by decide) hk0
            have n19 : D 19 = false := hClo.no 19 rfl (k := 9) (by decide) hk0
            have n20 : D 20 = false := hClo.no 20 rfl (k := 9) (by decide) hk0
            have n15 : D 15 = false := hClo.no 15 rfl (k := 10) (by decide) n10
            have n16 : D 16 = false := hClo.no 16 rfl (k := 15) (by decide) n15
            have n17 : D 17 = false := hClo.no 17 rfl (k := 16) (by decide) n16
            have n18 : D 18 = false := hClo.no 18 rfl (k := 17) (by decide) n17
            clear hClo hd
            simp only [upd, Act.put, List.setIfInBounds_toArray, List.set_cons_zero, List.set_cons_succ]
            go_wp2_with fail
            refine hK _ _ ⟨eb, A2, cv2, ?_, ?_, ?_, ?_, ?_, ?_, ?_, ?_⟩
            · clear hK
              simp [upd, Act.put, also, *]
            · exact hlow
            · exact hzr
            · exact fun h' => (hba (by simpa [also] using h'))
            · exact fun h' => (how (by simpa [also] using h'))
            · exact fun h => by simp [also, *] at h
            · exact fun h => by simp [also, *] at h
            · exact (hbk).of_eq (by simp [also, *])
          · intro D a w' K hClo hk0 hd hJ hK
            change D 10 = false at hk0
            obtain ⟨eb, A2, cv2, rfl, hlow, hzr, hba, how, hli, hnw, hbk⟩ := hJ
            have e9 : D 9 = true := hd 9 (by decide)
            have n15 : D 15 = false := hClo.no 15 rfl (k := 10) (by decide) hk0
            have n19 : D 19 = false := hClo.no 19 rfl (k := 10) (by decide) hk0
            have n20 : D 20 = false := hClo.no 20 rfl (k := 10) (by decide) hk0
            have n16 : D 16 = false := hClo.no 16 rfl (k := 15) (by decide) n15
            have n17 : D 17 = false := hClo.no 17 rfl (k := 16) (by decide) n16
            have n18 : D 18 = false := hClo.no 18 rfl (k := 17) (by decide) n17
            clear hClo hd
            have y1 := (hba n18).cell 1
            simp only [List.getElem?_toArray, List.getElem?_cons_zero, List.getElem?_cons_succ] at y1
            simp only [upd, Act.put, List.setIfInBounds_toArray, List.set_cons_zero, List.set_cons_succ, e9]
            go_wp2_with fail
            refine hK _ _ ⟨eb, A2, cv2, ?_, ?_, ?_, ?_, ?_, ?_, ?_, ?_⟩
            · clear hK
              simp [upd, Act.put, also, *]
            · exact hlow
            · exact hzr
            · exact fun h' => (hba (by simpa [also] using h'))
            · exact fun h' => (how (by simpa [also] using h'))
            · exact fun h => by simp [also, *] at h
            · exact fun h => by simp [also, *] at h
            · exact (hbk).of_eq (by simp [also, *])
          · intro D a w' K hClo hk0 hd hJ hK
            change D 11 = false at hk0
            obtain ⟨eb, A2, cv2, rfl, hlow, hzr, hba, how, hli, hnw, hbk⟩ := hJ
            have n12 : D 12 = false := hClo.no 12 rfl (k := 11) (by decide) hk0
            have n19 : D 19 = false := hClo.no 19 rfl (k := 11) (by decide) hk0
            have n20 : D 20 = false := hClo.no 20 rfl (k := 11) (by decide) hk0
            have n13 : D 13 = false := hClo.no 13 rfl (k := 12) (by decide) n12
            have n14 : D 14 = false := hClo.no 14 rfl (k := 13) (by decide) n13
            have n15 : D 15 = false := hClo.no 15 rfl (k := 14) (by decide) n14
            have n16 : D 16 = false := hClo.no 16 rfl (k := 15) (by decide) n15
            have n17 : D 17 = false := hClo.no 17 rfl (k := 16) (by decide) n16
            have n18 : D 18 = false := hClo.no 18 rfl (k := 17) (by decide) n17
            clear hClo hd
            simp only [upd, Act.put, List.setIfInBounds_toArray, List.set_cons_zero, List.set_cons_succ]
            go_wp2_with fail
            refine hK _ _ ⟨eb, A2, cv2, ?_, ?_, ?_, ?_, ?_, ?_, ?_, ?_⟩
            · clear hK
              simp [upd, Act.put, also, *]
            · exact hlow
            · exact hzr
            · exact fun h' => (hba (by simpa [also] using h'))
            · exact fun h' => (how (by simpa [also] using h'))
            · exact fun h => by simp [also, *] at h
            · exact fun h => by simp [also, *] at h
            · exact (hbk).of_eq (by simp [also, *])
          · intro D a w' K hClo hk0 hd hJ hK
            change D 12 = false at hk0
            obtain ⟨eb, A2, cv2, rfl, hlow, hzr, hba, how, hli, hnw, hbk⟩ := hJ
            have e11 : D 11 = true := hd 11 (by decide)
            have n13 : D 13 = false := hClo.no 13 rfl (k := 12) (by decide) hk0
            have n19 : D 19 = false := hClo.no 19 rfl (k := 12) (by decide) hk0
            have n20 : D 20 = false := hClo.no 20 rfl (k := 12) (by decide) hk0
            have n14 : D 14 = false := hClo.no 14 rfl (k := 13) (by decide) n13
            have n15 : D 15 = false := hClo.no 15 rfl (k := 14) (by decide) n14
            have n16 : D 16 = false := hClo.no 16 rfl (k := 15) (by decide) n15
            have n17 : D 17 = false := hClo.no 17 rfl (k := 16) (by decide) n16
            have n18 : D 18 = false := hClo.no 18 rfl (k := 17) (by decide) n17
            clear hClo hd
            have y1 := (hba n18).cell 1
            simp only [List.getElem?_toArray, List.getElem?_cons_zero, List.getElem?_cons_succ] at y1
            simp only [upd, Act.put, List.setIfInBounds_toArray, List.set_cons_zero, List.set_cons_succ, e11]
            go_wp2_with fail
            refine hK _ _ ⟨eb, A2, cv2, ?_, ?_, ?_, ?_, ?_, ?_, ?_, ?_⟩
            · clear hK
              simp [upd, Act.put, also, *]
            · exact hlow
            · exact hzr
            · exact fun h' => (hba (by simpa [also] using h'))
            · exact fun h' => (how (by simpa [also] using h'))
            · exact fun h => by simp [also, *] at h
            · exact fun h => by simp [also, *] at h
            · exact (hbk).of_eq (by simp [also, *])
          · intro D a w' K hClo hk0 hd hJ hK
            change D 13 = false at hk0
            obtain ⟨eb, A2, cv2, rfl, hlow, hzr, hba, how, hli, hnw, hbk⟩ := hJ
            have e12 : D 12 = true := hd 12 (by decide)
            have n14 : D 14 = false := hClo.no 14 rfl (k := 13) (by decide) hk0
            have n19 : D 19 = false := hClo.no 19 rfl (k := 13) (by decide) hk0
            have n20 : D 20 = false := hClo.no 20 rfl (k := 13) (by decide) hk0
            have n15 : D 15 = false := hClo.no 15 rfl (k := 14) (by decide) n14
            have n16 : D 16 = false := hClo.no 16 rfl (k := 15) (by decide) n15
            have n17 : D 17 = false := hClo.no 17 rfl (k := 16) (by decide) n16
            have n18 : D 18 = false := hClo.no 18 rfl (k := 17) (by decide) n17
            clear hClo hd
            simp only [upd, Act.put, List.setIfInBounds_toArray, List.set_cons_zero, List.set_cons_succ, e12]
            go_wp2_with fail
            refine hK _ _ ⟨eb, A2, cv2, ?_, ?_, ?_, ?_, ?_, ?_, ?_, ?_⟩
            · clear hK
              simp [upd, Act.put, also, *]
            · exact hlow
            · exact hzr
            · exact fun h' => (hba (by simpa [also] using h'))
            · exact fun h' => (how (by simpa [also] using h'))
            · exact fun h => by simp [also, *] at h
            · exact fun h => by simp [also, *] at h
            · exact (hbk).of_eq (by simp [also, *])
          · intro D a w' K hClo hk0 hd hJ hK
            change D 14 = false at hk0
            obtain ⟨eb, A2, cv2, rfl, hlow, hzr, hba, how, hli, hnw, hbk⟩ := hJ
            have e13 : D 13 = true := hd 13 (by decide)
            have n15 : D 15 = false := hClo.no 15 rfl (k := 14) (by decide) hk0
            have n19 : D 19 = false := hClo.no 19 rfl (k := 14) (by decide) hk0
            have n20 : D 20 = false := hClo.no 20 rfl (k := 14) (by decide) hk0
            have n16 : D 16 = false := hClo.no 16 rfl (k := 15) (by decide) n15
            have n17 : D 17 = false := hClo.no 17 rfl (k := 16) (by decide) n16
            have n18 : D 18 = false := hClo.no 18 rfl (k := 17) (by decide) n17
            clear hClo hd
            simp only [upd, Act.put, List.setIfInBounds_toArray, List.set_cons_zero, List.set_cons_succ, e13]
            go_wp2_with fail
            refine hK _ _ ⟨eb, A2, cv2, ?_, ?_, ?_, ?_, ?_, ?_, ?_, ?_⟩
            · clear hK
              simp [upd, Act.put, also, *]
            · exact hlow
            · exact hzr
            · exact fun h' => (hba (by simpa [also] using h'))
            · exact fun h' => (how (by simpa [also] using h'))
            · exact fun h => by simp [also, *] at h
            · exact fun h => by simp [also, *] at h
            · exact (hbk).of_eq (by simp [also, *])
          · intro D a w' K hClo hk0 hd hJ hK
            change D 15 = false at hk0
            obtain ⟨eb, A2, cv2, rfl, hlow, hzr, hba, how, hli, hnw, hbk⟩ := hJ
            have e10 : D 10 = true := hd 10 (by decide)
            have e14 : D 14 = true := hd 14 (by decide)
            have n16 : D 16 = false := hClo.no 16 rfl (k := 15) (by decide) hk0
            have n19 : D 19 = false := hClo.no 19 rfl (k := 15) (by decide) hk0
            have n20 : D 20 = false := hClo.no 20 rfl (k := 15) (by decide) hk0
            have n17 : D 17 = false := hClo.no 17 rfl (k := 16) (by decide) n16
            have n18 : D 18 = false := hClo.no 18 rfl (k := 17) (by decide) n17
            clear hClo hd
            simp only [upd, Act.put, List.setIfInBounds_toArray, List.set_cons_zero, List.set_cons_succ, e10, e14]
            go_wp2_with fail
            refine hK _ _ ⟨eb, A2, cv2, ?_, ?_, ?_, ?_, ?_, ?_, ?_, ?_⟩
            · clear hK
              simp [upd, Act.put, also, *]
            · exact hlow
            · exact hzr
            · exact fun h' => (hba (by simpa [also] using h'))
            · exact fun h' => (how (by simpa [also] using h'))
            · exact fun h => by simp [also, *] at h
            · exact fun h => by simp [also, *] at h
            · exact (hbk).of_eq (by simp [also, *])
          · intro D a w' K hClo hk0 hd hJ hK
            change D 16 = false at hk0
            obtain ⟨eb, A2, cv2, rfl, hlow, hzr, hba, how, hli, hnw, hbk⟩ := hJ
            have e8 : D 8 = true := hd 8 (by decide)
            have e15 : D 15 = true := hd 15 (by decide)
            have n17 : D 17 = false := hClo.no 17 rfl (k := 16) (by decide) hk0
            have n19 : D 19 = false := hClo.no 19 rfl (k := 16) (by decide) hk0
            have n20 : D 20 = false := hClo.no 20 rfl (k := 16) (by decide) hk0
            have n18 : D 18 = false := hClo.no 18 rfl (k := 17) (by decide) n17
            clear hClo hd
            simp only [upd, Act.put, List.setIfInBounds_toArray, List.set_cons_zero, List.set_cons_succ, e8, e15]
            go_wp2_with fail
            refine hK _ _ ⟨eb, A2, cv2, ?_, ?_, ?_, ?_, ?_, ?_, ?_, ?_⟩
            · clear hK
              simp [upd, Act.put, also, *]
            · exact hlow
            · exact hzr
            · exact fun h' => (hba (by simpa [also] using h'))
            · exact fun h' => (how (by simpa [also] using h'))
            · exact fun h => by simp [also, *] at h
            · exact fun h => by simp [also, *] at h
            · exact (hbk).of_eq (by simp [also, *])
          · intro D a w' K hClo hk0 hd hJ hK
            change D 17 = false at hk0
            obtain ⟨eb, A2, cv2, rfl, hlow, hzr, hba, how, hli, hnw, hbk⟩ := hJ
            have e16 : D 16 = true := hd 16 (by decide)
            have n18 : D 18 = false := hClo.no 18 rfl (k := 17) (by decide) hk0
            have n19 : D 19 = false := hClo.no 19 rfl (k := 17) (by decide) hk0
            have n20 : D 20 = false := hClo.no 20 rfl (k := 17) (by decide) hk0
            clear hClo hd
            simp only [upd, Act.put, List.setIfInBounds_toArray, List.set_cons_zero, List.set_cons_succ, e16]
            go_wp2_with fail
            refine hK _ _ ⟨w'.heap.size, A2, cv2, ?_, ?_, ?_, ?_, ?_, ?_, ?_, ?_⟩
            · clear hK
              simp [upd, Act.put, also, *]
            · exact hlow.alloc _
            · exact hzr.alloc _
            · exact fun h' => (hba (by simpa [also] using h')).alloc _
            · exact fun h' => (how (by simpa [also] using h')).alloc _
            · exact fun _ _ => Has.new hlow.size 57 _
            · exact fun h => by simp [also, *] at h
            · exact (hbk.alloc _).of_eq (by simp [also, *])
          · intro D a w' K hClo hk0 hd hJ hK
            change D 18 = false at hk0
            obtain ⟨eb, A2, cv2, rfl, hlow, hzr, hba, how, hli, hnw, hbk⟩ := hJ
            have e1 : D 1 = true := hd 1 (by decide)
            have e17 : D 17 = true := hd 17 (by decide)
            have n19 : D 19 = false := hClo.no 19 rfl (k := 18) (by decide) hk0
            have n20 : D 20 = false := hClo.no 20 rfl (k := 18) (by decide) hk0
            clear hClo hd
            have how1 := how hk0
            have hli1 := hli e17 hk0
            have hsz := hlow.size
            have How := hide how1
            have Hli := hide hli1
            have Hlow := hide hlow
            have Hzr := hide hzr
            have Hbk := hide hbk
            clear how1 hli1 how hli hlow hzr hbk hba
            simp only [upd, Act.put, List.setIfInBounds_toArray, List.set_cons_zero, List.set_cons_succ, e1, e17]
            go_wp2_with (at_builtin
                         refine wpList_append_any _ rfl _ _ _ rfl wz.heap.size 57 i0 _ 2 32 Tryd.underlying48 hi hz0 hz1 hz2 rfl (by omega) _ k _ rfl How.out.o (eb + 1) (some ⟨eb, 0, none⟩) 1 1 _ rfl (reads_blk Hli.out.blk (Nat.lt_succ_self _) 2 rfl) (by simp [Value.oneCell']) (by unfold maxLen; omega) (by omega) hsz ?_
                         intro v1 w2 hown hg _
                         obtain ⟨A1, c1, rfl, hnc1, _⟩ := own_form hown
                         have Hown := hide hown
                         have Hg := hide hg
                         clear hown hg)
            refine hK _ _ ⟨eb, A1, c1, ?_, ?_, ?_, ?_, ?_, ?_, ?_, ?_⟩
            · clear hK
              simp [upd, Act.put, also, *]
            · exact Hlow.out.grownrow Hg.out (own_block_ge How.out.o)
            · exact Hzr.out.grownrow Hg.out (fun e => own_blk_ne How.out.o Hzr.out.blk (by decide) e.symm)
            · exact fun h => by simp [also] at h
            · exact fun h => by simp [also] at h
            · exact fun _ h => by simp [also] at h
            · exact fun _ => ⟨Hown.out⟩
            · exact (Hbk.out.grownrow Hg.out (fun e => own_blk_ne How.out.o Hbk.out.blk (by decide) e.symm)).of_eq (by simp [also, *])
          · intro D a w' K hClo hk0 hd hJ hK
            change D 19 = false at hk0
            obtain ⟨eb, A2, cv2, rfl, hlow, hzr, hba, how, hli, hnw, hbk⟩ := hJ
            have e0 : D 0 = true := hd 0 (by decide)
            have e1 : D 1 = true := hd 1 (by decide)
            have e2 : D 2 = true := hd 2 (by decide)
            have e3 : D 3 = true := hd 3 (by decide)
            have e4 : D 4 = true := hd 4 (by decide)
            have e5 : D 5 = true := hd 5 (by decide)
            have e6 : D 6 = true := hd 6 (by decide)
            have e7 : D 7 = true := hd 7 (by decide)
            have e8 : D 8 = true := hd 8 (by decide)
            have e9 : D 9 = true := hd 9 (by decide)
            have e10 : D 10 = true := hd 10 (by decide)
            have e11 : D 11 = true := hd 11 (by decide)
            have e12 : D 12 = true := hd 12 (by decide)
            have e13 : D 13 = true := hd 13 (by decide)
            have e14 : D 14 = true := hd 14 (by decide)
            have e15 : D 15 = true := hd 15 (by decide)
            have e16 : D 16 = true := hd 16 (by decide)
            have e17 : D 17 = true := hd 17 (by decide)
            have e18 : D 18 = true := hd 18 (by decide)
            have n20 : D 20 = false := hClo.no 20 rfl (k := 19) (by decide) hk0
            clear hClo hd
            simp only [upd, Act.put, List.setIfInBounds_toArray, List.set_cons_zero, List.set_cons_succ, e0, e1, e2, e3, e4, e5, e6, e7, e8, e9, e10, e11, e12, e13, e14, e15, e16, e17, e18]
            go_wp2_with fail
            refine hK _ _ ⟨eb, A2, cv2, ?_, ?_, ?_, ?_, ?_, ?_, ?_, ?_⟩
            · clear hK
              simp [upd, Act.put, also, *]
            · exact hlow
            · exact hzr
            · exact fun h' => (hba (by simpa [also] using h'))
            · exact fun h' => (how (by simpa [also] using h'))
            · exact fun h h' => (hli (by simpa [also] using h) (by simpa [also] using h'))
            · exact fun h => (hnw (by simpa [also] using h))
            · exact (hbk).of_eq (by simp [also, *])
          · intro D a w' K hClo hk0 hd hJ hK
            change D 20 = false at hk0
            obtain ⟨eb, A2, cv2, rfl, hlow, hzr, hba, how, hli, hnw, hbk⟩ := hJ
            have e0 : D 0 = true := hd 0 (by decide)
            have e1 : D 1 = true := hd 1 (by decide)
            have e2 : D 2 = true := hd 2 (by decide)
            have e3 : D 3 = true := hd 3 (by decide)
            have e4 : D 4 = true := hd 4 (by decide)
            have e5 : D 5 = true := hd 5 (by decide)
            have e6 : D 6 = true := hd 6 (by decide)
            have e7 : D 7 = true := hd 7 (by decide)
            have e8 : D 8 = true := hd 8 (by decide)
            have e9 : D 9 = true := hd 9 (by decide)
            have e10 : D 10 = true := hd 10 (by decide)
            have e11 : D 11 = true := hd 11 (by decide)
            have e12 : D 12 = true := hd 12 (by decide)
            have e13 : D 13 = true := hd 13 (by decide)
            have e14 : D 14 = true := hd 14 (by decide)
            have e15 : D 15 = true := hd 15 (by decide)
            have e16 : D 16 = true := hd 16 (by decide)
            have e17 : D 17 = true := hd 17 (by decide)
            have e18 : D 18 = true := hd 18 (by decide)
            have e19 : D 19 = true := hd 19 (by decide)
            clear hClo hd
            have hbk1 : Has wz w' bk 50 #[.string i1, .string i2, .string i3, .int .i64 d, .int .i64 m, .int .i64 am, .slice Av k cv] := hbk.of_eq (by rw [hk0]; rfl)
            have hge := hbk1.ge
            have hne := own_blk_ne (hnw e18).o hbk1.blk (by decide)
            have c6 := hbk1.cell 6
            have f6 := hbk1.frozen 6
            simp only [List.getElem?_toArray, List.getElem?_cons_zero, List.getElem?_cons_succ] at c6
            have Hbk := hide hbk1
            have Hne := hide hne
            clear hbk1 hbk hne
            simp only [upd, Act.put, List.setIfInBounds_toArray, List.set_cons_zero, List.set_cons_succ, e0, e1, e2, e3, e4, e5, e6, e7, e8, e9, e10, e11, e12, e13, e14, e15, e16, e17, e18, e19]
            go_wp2_with fail
            refine hK _ _ ⟨eb, A2, cv2, ?_, ?_, ?_, ?_, ?_, ?_, ?_, ?_⟩
            · clear hK
              simp [upd, Act.put, also, *]
            · exact hlow.far hge _
            · exact hzr.far (by show bk ≠ _; omega) _
            · exact fun h => by simp [also, *] at h
            · exact fun h => by simp [also, *] at h
            · exact fun _ h => by simp [also, *] at h
            · exact fun _ => (hnw e18).far Hne.out _
            · exact (Hbk.out.set_ 6 _).of_eq (by simp [also])
        · intro D a' w5 hall hJ
          obtain ⟨eb, A2, cv2, rfl, hlow, hzr, hba, how, hli, hnw, hbk⟩ := hJ
          have e0 : D 0 = true := hall 0 (by decide)
          have e1 : D 1 = true := hall 1 (by decide)
          have e2 : D 2 = true := hall 2 (by decide)
          have e3 : D 3 = true := hall 3 (by decide)
          have e4 : D 4 = true := hall 4 (by decide)
          have e5 : D 5 = true := hall 5 (by decide)
          have e6 : D 6 = true := hall 6 (by decide)
          have e7 : D 7 = true := hall 7 (by decide)
          have e8 : D 8 = true := hall 8 (by decide)
          have e9 : D 9 = true := hall 9 (by decide)
          have e10 : D 10 = true := hall 10 (by decide)
          have e11 : D 11 = true := hall 11 (by decide)
          have e12 : D 12 = true := hall 12 (by decide)
          have e13 : D 13 = true := hall 13 (by decide)
          have e14 : D 14 = true := hall 14 (by decide)
          have e15 : D 15 = true := hall 15 (by decide)
          have e16 : D 16 = true := hall 16 (by decide)
          have e17 : D 17 = true := hall 17 (by decide)
          have e18 : D 18 = true := hall 18 (by decide)
          have e19 : D 19 = true := hall 19 (by decide)
          have e20 : D 20 = true := hall 20 (by decide)
          clear hall
          clear hba
          clear how
          clear hli
          replace hnw := hnw e18
          replace hbk : Has wz w5 bk 50 #[.string i1, .string i2, .string i3, .int .i64 d, .int .i64 m, .int .i64 am, .slice A2 (k + 1) cv2] := hbk.of_eq (by simp [*])
          simp only [upd, Act.put, List.setIfInBounds_toArray, List.set_cons_zero, List.set_cons_succ, sel_true, e0, e1, e2, e3, e4, e5, e6, e7, e8, e9, e10, e11, e12, e13, e14, e15, e16, e17, e18, e19]
          clear e0 e1 e2 e3 e4 e5 e6 e7 e8 e9 e10 e11 e12 e13 e14 e15 e16 e17 e18 e19 e20
          have hl9 : Hid ((N ++ [((x1.extract 0 s1, x2.extract 0 s2) : Lk)]).length = k + 1) := by show (N ++ [_]).length = k + 1; rw [List.length_append, HNl.out]; rfl
          have hs9 : Hid (∀ r ∈ N ++ [((x1.extract 0 s1, x2.extract 0 s2) : Lk)], r.1.size ≤ 30 ∧ r.2.size ≤ 30) := fun r hr => by
            rcases List.mem_append.1 hr with h | h
            · exact HNs.out r h
            · obtain rfl := List.mem_singleton.1 h
              exact ⟨by show (x1.extract 0 s1).size ≤ 30; rw [ByteArray.size_extract]; have := G3.out; omega, by show (x2.extract 0 s2).size ≤ 30; rw [ByteArray.size_extract]; have := G4.out; omega⟩
          have ho9 : Hid (Owns w5 wz.heap.size 57 2 (.slice A2 (k + 1) cv2) (k + 1) ((N ++ [((x1.extract 0 s1, x2.extract 0 s2) : Lk)]).flatMap lc)) := by
            rw [List.flatMap_append]
            exact hnw
          have hk9 := hide hbk
          have hz9 := hide hzr
          have hl0 := hide hlow
          clear hnw hbk hzr hlow
          go_wp2_with fail
          go_roundw
          case rel => exact ⟨k + 1, N ++ [((x1.extract 0 s1, x2.extract 0 s2) : Lk)], A2, cv2, by omega, by go_num, hl9, hs9, ho9, hk9, hz9, hl0⟩
          case measure => simp [intOf]; omega
      · obtain rfl : k = q := by omega
        have hk1 := HK.out
        have hz1 := HZ.out
        have v0 := hk1.cell 0
        have v1 := hk1.cell 1
        have v2 := hk1.cell 2
        have v3 := hk1.cell 3
        have v4 := hk1.cell 4
        have v5 := hk1.cell 5
        have v6 := hk1.cell 6
        have o0 := hz1.cell 0
        have o1 := hz1.cell 1
        have o2 := hz1.cell 2
        have o3 := hz1.cell 3
        have o4 := hz1.cell 4
        have o5 := hz1.cell 5
        have o6 := hz1.cell 6
        have f0 := hz1.frozen 0
        have f1 := hz1.frozen 1
        have f2 := hz1.frozen 2
        have f3 := hz1.frozen 3
        have f4 := hz1.frozen 4
        have f5 := hz1.frozen 5
        have f6 := hz1.frozen 6
        simp only [List.getElem?_toArray, List.getElem?_cons_zero, List.getElem?_cons_succ] at v0 v1 v2 v3 v4 v5 v6 o0 o1 o2 o3 o4 o5 o6
        have hne : bk ≠ wz.heap.size + 1 := by have := HGE.out; omega
        have hne2 : wz.heap.size + 1 ≠ bk := fun e => hne e.symm
        clear hk1 hz1
        go_wp2_with fail
        refine bodyPost_ret (v := .agg (pv ⟨i1, i2, i3, d, m, am⟩ (.slice Av k cv))) (by simp [results, Tryd.results33, go_sem, pv, o0, o1, o2, o3, o4, o5, o6]) rfl ?_
        have hrow := RowL.of_own HO.out.o HNl.out rfl
        refine ⟨⟨i1, i2, i3, d, m, am⟩, Av, cv, k, N, rfl, y4', ?_, ?_, Q2.out, Q3.out, HNs.out, ?_⟩
        · obtain ⟨_, _, e, h1, _⟩ := own_form HO.out.o
          injection e with _ _ e
          omega
        · have hrn : ∀ b', Av = some ⟨b', 0, none⟩ → b' ≠ wz.heap.size + 1 := fun b' e e2 => by
            refine own_blk_ne HO.out.o HZ.out.blk (by decide) ?_
            rw [e, e2]; rfl
          iterate 7 (refine RowL.farne ?_ hrn _)
          exact hrow
        · iterate 7 (refine Below.setCell ?_ (by show wz.heap.size ≤ wz.heap.size + 1; omega) _)
          exact HLo.out.b
end Go.Proofs.YtjgbadopladmdaaDoor
