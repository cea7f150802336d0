/- The law's walk of ProductNormal. -/
import Derived.Test.YtjgbadopladmdaaDoorSpoilW
import Derived.Test.YtjgbadopladmdaaDoorRawP
import Derived.Test.YtjgbadopladmdaaDoorKeyV
import Derived.Test.YtjgbadopladmdaaDoorSamePW
import Derived.Test.YtjgbadopladmdaaDoorDigW
namespace Go.Proofs.YtjgbadopladmdaaDoor
open Go.RowKit
open Rel (Lk)

/-- a product at place k of block lb -/
structure AtP (w : World) (lb k : Nat) (p : Pr) (A : Option Addr) (n c : Nat) (L : List Lk) : Prop where
  cells : ∀ i, i < 7 → w.cell? ⟨lb, k * 7 + i, none⟩ = (pv p (.slice A n c))[i]?
  recs : Recs lc 2 w w.heap.size A n L
  n14 : n ≤ 14
  cd : p.cd.size ≤ 1000
  br : p.br.size ≤ 1000
  short : ∀ r ∈ L, r.1.size ≤ 1000 ∧ r.2.size ≤ 1000

set_option maxHeartbeats 8000000 in
set_option maxRecDepth 100000 in
theorem normal_law (p0 : Pr) (A0 A9 : Option Addr) (n0 c0 n9 c9 B : Nat) (L0 : List Lk) (zs : List Int) (wz : World) (h : Reads wz B 2 A0 n0 (L0.flatMap lc)) (hl : n0 = L0.length) (hnc : n0 ≤ c0)
    (hr : Reads wz B 1 A9 n9 (zs.map (Value.int .i64))) (hB : B ≤ wz.heap.size) (hn : n9 ≤ maxLen) :
    Calls Tryd.prog 8 #[.agg (pv p0 (.slice A0 n0 c0)), .slice A9 n9 c9] wz fun e w' => e = .returned (.bool true) ∧ Below wz.heap.size wz w' := by
  obtain ⟨id, cd, br, d, m, am⟩ := p0
  have hb0 := (Below.refl wz.heap.size wz).alloc (Nat.le_refl _) (.cells #[.string id, .string cd, .string br, .int .i64 d, .int .i64 m, .int .i64 am, .slice A0 n0 c0] 50)
  have hraw := rawp_any ⟨id, cd, br, d, m, am⟩ A0 n0 c0 B L0 (wz.alloc (.cells #[.string id, .string cd, .string br, .int .i64 d, .int .i64 m, .int .i64 am, .slice A0 n0 c0] 50)) (h.below (hb0.mono hB)) hl (by simp; omega) hnc
  simp only [pv] at hraw ⊢
  have HB0 := hide hb0
  have HRaw := hide hraw
  clear hb0 hraw h hl
  go_enter Tryd.func8, Tryd.ntmps8
  go_wp2_with fail
  with_reducible refine HRaw.out.mono ?_
  rintro e w1 ⟨p1, A1, c1, n1, L1, rfl, hn1, hnc1, hr1, hcd1, hbr1, hs1, hB1⟩
  have hb1 := HB0.out.trans (hB1.mono HB0.out.size)
  have ht1 : Tape (w1.alloc (.cells #[.slice A9 n9 c9, .int .i64 0] 34)) B w1.heap.size 0 :=
    ⟨A9, n9, c9, 0, zs, Blk.new w1 34 _, Nat.le_refl _, (hr.below (hb1.mono hB)).alloc (Nat.le_trans hB hb1.size) _, Nat.le_trans hB hb1.size, hn⟩
  have hsp := spoiled_any w1.heap.size 0 B _ ht1 (by omega)
  have hbt := hb1.alloc hb1.size (.cells #[.slice A9 n9 c9, .int .i64 0] 34)
  have hrt := hr1.alloc (.cells #[.slice A9 n9 c9, .int .i64 0] 34)
  have hzt : (w1.alloc (.cells #[.slice A9 n9 c9, .int .i64 0] 34)).heap.size = w1.heap.size + 1 := by simp
  have HSp := hide hsp
  have HBT := hide hbt
  have HRT := hide hrt
  have HZT := hide hzt
  clear hsp hbt hrt hzt ht1 hr hB1 hr1
  go_wp2_with fail
  with_reducible refine HSp.out.mono ?_
  rintro e w2 ⟨p2, A2, n2, c2, L2, rfl, hr2, hn2, hnc2, hcd2, hbr2, hs2, htap⟩
  have hzb := hb1.size
  have hg2 := htap.grow
  have hb2 : Below wz.heap.size wz w2 := HBT.out.grown hg2 (by have := HZT.out; omega) (fun x hx => by have := Option.some.inj hx; omega)
  have hra : RowL w2 wz.heap.size A1 n1 L1 := (HRT.out.base_ HB0.out.size).grown hg2 (fun b' _ hb' e => by
    have e2 := Option.some.inj e
    subst e2
    exact hb'.ne_ (Blk.new w1 34 #[.slice A9 n9 c9, .int .i64 0]) (by decide) rfl)
  have hrb : RowL w2 wz.heap.size A2 n2 L2 := hr2.base_ (by have := HZT.out; omega)
  obtain ⟨i1, d1, r1, f1, m1, a1⟩ := p1
  obtain ⟨i2, d2, r2, f2, m2, a2⟩ := p2
  simp only at hcd1 hbr1 hcd2 hbr2
  simp only [pv]
  go_upto_block 0 with (fail)
  have hM : Below wz.heap.size wz (w2.alloc (.cells #[.string i1, .string d1, .string r1, .int .i64 f1, .int .i64 m1, .int .i64 a1, .slice A1 n1 c1, .string i2, .string d2, .string r2, .int .i64 f2, .int .i64 m2, .int .i64 a2, .slice A2 n2 c2] 50)) := hb2.alloc hb2.size _
  have hlb : w2.heap.size < (w2.alloc (.cells #[.string i1, .string d1, .string r1, .int .i64 f1, .int .i64 m1, .int .i64 a1, .slice A1 n1 c1, .string i2, .string d2, .string r2, .int .i64 f2, .int .i64 m2, .int .i64 a2, .slice A2 n2 c2] 50)).heap.size := by simp
  have hbl := Blk.new w2 50 #[.string i1, .string d1, .string r1, .int .i64 f1, .int .i64 m1, .int .i64 a1, .slice A1 n1 c1, .string i2, .string d2, .string r2, .int .i64 f2, .int .i64 m2, .int .i64 a2, .slice A2 n2 c2]
  have hprod : ∀ k, k < 2 → ∃ p A n c L, AtP (w2.alloc (.cells #[.string i1, .string d1, .string r1, .int .i64 f1, .int .i64 m1, .int .i64 a1, .slice A1 n1 c1, .string i2, .string d2, .string r2, .int .i64 f2, .int .i64 m2, .int .i64 a2, .slice A2 n2 c2] 50)) w2.heap.size k p A n c L := by
    intro k hk
    obtain rfl | rfl : k = 0 ∨ k = 1 := by omega
    · refine ⟨⟨i1, d1, r1, f1, m1, a1⟩, A1, n1, c1, L1, fun i hi => ?_, (hra.alloc _).recs (by omega), hn1, Nat.le_trans hcd1 (by decide), Nat.le_trans hbr1 (by decide), fun r hr => ⟨Nat.le_trans (hs1 r hr).1 (by decide), Nat.le_trans (hs1 r hr).2 (by decide)⟩⟩
      rw [hbl.cell]
      match i, hi with
      | 0, _ => rfl
      | 1, _ => rfl
      | 2, _ => rfl
      | 3, _ => rfl
      | 4, _ => rfl
      | 5, _ => rfl
      | 6, _ => rfl
    · refine ⟨⟨i2, d2, r2, f2, m2, a2⟩, A2, n2, c2, L2, fun i hi => ?_, (hrb.alloc _).recs (by omega), hn2, Nat.le_trans hcd2 (by decide), Nat.le_trans hbr2 (by decide), fun r hr => ⟨Nat.le_trans (hs2 r hr).1 (by decide), Nat.le_trans (hs2 r hr).2 (by decide)⟩⟩
      rw [hbl.cell]
      match i, hi with
      | 0, _ => rfl
      | 1, _ => rfl
      | 2, _ => rfl
      | 3, _ => rfl
      | 4, _ => rfl
      | 5, _ => rfl
      | 6, _ => rfl
  generalize w2.alloc (.cells #[.string i1, .string d1, .string r1, .int .i64 f1, .int .i64 m1, .int .i64 a1, .slice A1 n1 c1, .string i2, .string d2, .string r2, .int .i64 f2, .int .i64 m2, .int .i64 a2, .slice A2 n2 c2] 50) = wM at hM hlb hprod ⊢
  generalize w2.heap.size = lb at hlb hprod ⊢
  have HP := hide hprod
  have HM := hide hM
  clear hprod hM hbl hra hrb hs1 hs2 hcd1 hcd2 hbr1 hbr2 hn1 hn2 hnc1 hnc2 hr2 htap hg2 hb2 hb1 HSp HBT HRT HZT HB0 HRaw
  go_wp2
  go_loopw [16] (fun i wr => ∃ k : Nat, k ≤ 2 ∧ i = .int .i64 k ∧ Hid (Below wM.heap.size wM wr)) (fun i _ => 2 - (intOf i).toNat)
  case atStart => exact ⟨0, by omega, rfl, (show Below _ _ _ from Below.refl _ _)⟩
  case round =>
    obtain ⟨k, hk, rfl, Hb⟩ := hrel
    have hzr := Hb.out.size
    by_cases hlt : k < 2
    · obtain ⟨⟨id, cd, br, d, m, am⟩, A, n, c, L, hcel, hrec, hn14, hcd, hbr, hss⟩ := HP.out k hlt
      simp only [pv] at hcel
      simp only at hcd hbr
      have x0 : wr.cell? ⟨lb, k * 7, none⟩ = some (.string id) := (Hb.out.cell (p := ⟨lb, k * 7, none⟩) hlb).trans (hcel 0 (by omega))
      have x1 : wr.cell? ⟨lb, k * 7 + 1, none⟩ = some (.string cd) := (Hb.out.cell (p := ⟨lb, k * 7 + 1, none⟩) hlb).trans (hcel 1 (by omega))
      have x2 : wr.cell? ⟨lb, k * 7 + 2, none⟩ = some (.string br) := (Hb.out.cell (p := ⟨lb, k * 7 + 2, none⟩) hlb).trans (hcel 2 (by omega))
      have x3 : wr.cell? ⟨lb, k * 7 + 3, none⟩ = some (.int .i64 d) := (Hb.out.cell (p := ⟨lb, k * 7 + 3, none⟩) hlb).trans (hcel 3 (by omega))
      have x4 : wr.cell? ⟨lb, k * 7 + 4, none⟩ = some (.int .i64 m) := (Hb.out.cell (p := ⟨lb, k * 7 + 4, none⟩) hlb).trans (hcel 4 (by omega))
      have x5 : wr.cell? ⟨lb, k * 7 + 5, none⟩ = some (.int .i64 am) := (Hb.out.cell (p := ⟨lb, k * 7 + 5, none⟩) hlb).trans (hcel 5 (by omega))
      have x6 : wr.cell? ⟨lb, k * 7 + 6, none⟩ = some (.slice A n c) := (Hb.out.cell (p := ⟨lb, k * 7 + 6, none⟩) hlb).trans (hcel 6 (by omega))
      have hrec1 := (hrec.below Hb.out).more hzr
      have hrec2 := hrec1.below ((Below.refl wr.heap.size wr).alloc (Nat.le_refl _) (.cells #[.string id, .string cd, .string br, .int .i64 d, .int .i64 m, .int .i64 am, .slice A n c] 50))
      have hnorm := normalize_any ⟨id, cd, br, d, m, am⟩ A n c wr.heap.size L (wr.alloc (.cells #[.string id, .string cd, .string br, .int .i64 d, .int .i64 m, .int .i64 am, .slice A n c] 50)) hrec2.reads hrec2.len (by simp) (by omega)
      simp only [pv] at hnorm
      have hbA := Hb.out.alloc hzr (.cells #[.string id, .string cd, .string br, .int .i64 d, .int .i64 m, .int .i64 am, .slice A n c] 50)
      have hxA := Blk.new wr 50 #[.string id, .string cd, .string br, .int .i64 d, .int .i64 m, .int .i64 am, .slice A n c]
      have hzA := Nat.le_of_eq (show (wr.alloc (.cells #[.string id, .string cd, .string br, .int .i64 d, .int .i64 m, .int .i64 am, .slice A n c] 50)).heap.size = wr.heap.size + 1 by simp)
      have hzA' := Nat.le_of_eq (show wr.heap.size + 1 = (wr.alloc (.cells #[.string id, .string cd, .string br, .int .i64 d, .int .i64 m, .int .i64 am, .slice A n c] 50)).heap.size by simp)
      have HN := hide hnorm
      have HBA := hide hbA
      have HXA := hide hxA
      have HR2 := hide hrec2
      have HS1 := hide hcd
      have HS2 := hide hbr
      have HSS := hide hss
      clear hnorm hbA hxA hrec1 hrec2 hrec hcel hcd hbr hss
      go_wp2_with fail
      with_reducible refine HN.out.mono ?_
      rintro e w4 ⟨A1, c1, rfl, hr4, hnc1, hB4⟩
      simp only [pv]
      have hz4 := hB4.size
      have hxW := (HXA.out.below hB4 (by omega)).alloc (.cells #[.string id, .string cd, .string br, .int .i64 d, .int .i64 m, .int .i64 am, .slice A1 n c1] 50)
      have hzW := Blk.new w4 50 #[.string id, .string cd, .string br, .int .i64 d, .int .i64 m, .int .i64 am, .slice A1 n c1]
      have hbW := (HBA.out.trans (hB4.mono (Nat.le_trans hzr (by omega)))).alloc (by omega) (.cells #[.string id, .string cd, .string br, .int .i64 d, .int .i64 m, .int .i64 am, .slice A1 n c1] 50)
      have hrxW := (HR2.out.below (hB4.mono (by omega))).below ((Below.refl wr.heap.size w4).alloc (by omega) (.cells #[.string id, .string cd, .string br, .int .i64 d, .int .i64 m, .int .i64 am, .slice A1 n c1] 50))
      have hrnW := (hr4.alloc (.cells #[.string id, .string cd, .string br, .int .i64 d, .int .i64 m, .int .i64 am, .slice A1 n c1] 50)).recs (by omega)
      have hbx : wr.heap.size < (w4.alloc (.cells #[.string id, .string cd, .string br, .int .i64 d, .int .i64 m, .int .i64 am, .slice A1 n c1] 50)).heap.size := by simp; omega
      have hbn : w4.heap.size < (w4.alloc (.cells #[.string id, .string cd, .string br, .int .i64 d, .int .i64 m, .int .i64 am, .slice A1 n c1] 50)).heap.size := by simp
      go_upto_region 5 with (fail)
      generalize w4.alloc (.cells #[.string id, .string cd, .string br, .int .i64 d, .int .i64 m, .int .i64 am, .slice A1 n c1] 50) = W at hxW hzW hbW hrxW hrnW hbx hbn ⊢
      clear x0 x1 x2 x3 x4 x5 x6 hr4 hB4 hzA hzA' hz4
      have HRX := hide (hrxW.more (Nat.le_of_lt hbx))
      have HRN := hide hrnW
      have HBW := hide hbW
      generalize hbxe : wr.heap.size = bx at hxW hbx ⊢
      generalize w4.heap.size = bn at hzW hbn ⊢
      clear hbxe hrxW hrnW hbW
      have x0 := hxW.cell 0
      have x1 := hxW.cell 1
      have x2 := hxW.cell 2
      have x3 := hxW.cell 3
      have x4 := hxW.cell 4
      have x5 := hxW.cell 5
      have x6 := hxW.cell 6
      have z0 := hzW.cell 0
      have z1 := hzW.cell 1
      have z2 := hzW.cell 2
      have z3 := hzW.cell 3
      have z4 := hzW.cell 4
      have z5 := hzW.cell 5
      have z6 := hzW.cell 6
      simp only [List.getElem?_toArray, List.getElem?_cons_zero, List.getElem?_cons_succ] at x0 x1 x2 x3 x4 x5 x6 z0 z1 z2 z3 z4 z5 z6
      clear hxW hzW
      refine wp_region_each (fun a0 D a w => ∃ (A2 : Option Addr) (c2 : Nat) (A3 : Option Addr) (c3 : Nat), a = upd a0 [(22, sel (D 0) (.agg #[.string id, .string cd, .string br, .int .i64 d, .int .i64 m, .int .i64 am, .slice A1 n c1]) u22), (23, sel (D 1) (.agg #[.string id, .string cd, .string br, .int .i64 d, .int .i64 m, .int .i64 am, .slice A n c]) u23), (24, sel (D 2) (.agg #[.string id, .string cd, .string br, .int .i64 d, .int .i64 m, .int .i64 am, .slice A2 n c2]) u24), (25, sel (D 3) (.bool true) u25), (26, sel (D 4) (.bool false) u26), (27, sel (D 5) (.bool false) u27), (28, sel (D 6) (.agg #[.string id, .string cd, .string br, .int .i64 d, .int .i64 m, .int .i64 am, .slice A n c]) u28), (29, sel (D 7) (.string (keyS cd br (Srt.srt L))) u29), (30, sel (D 8) (.agg #[.string id, .string cd, .string br, .int .i64 d, .int .i64 m, .int .i64 am, .slice A n c]) u30), (31, sel (D 9) (.string (keyS cd br (Srt.srt L))) u31), (32, sel (D 10) (.bool false) u32), (33, sel (D 11) (.bool false) u33), (34, sel (D 12) (.bool false) u34), (35, sel (D 13) (.agg #[.string id, .string cd, .string br, .int .i64 d, .int .i64 m, .int .i64 am, .slice A1 n c1]) u35), (36, sel (D 14) (.string (keyS cd br (Srt.srt L))) u36), (37, sel (D 15) (.agg #[.string id, .string cd, .string br, .int .i64 d, .int .i64 m, .int .i64 am, .slice A n c]) u37), (38, sel (D 16) (.string (keyS cd br (Srt.srt L))) u38), (39, sel (D 17) (.bool false) u39), (40, sel (D 18) (.bool false) u40), (41, sel (D 19) (.bool false) u41), (42, sel (D 20) (.agg #[.string id, .string cd, .string br, .int .i64 d, .int .i64 m, .int .i64 am, .slice A1 n c1]) u42), (43, sel (D 21) (.agg #[.string id, .string cd, .string br, .int .i64 d, .int .i64 m, .int .i64 am, .slice A3 n c3]) u43), (44, sel (D 22) (.agg #[.string id, .string cd, .string br, .int .i64 d, .int .i64 m, .int .i64 am, .slice A1 n c1]) u44), (45, sel (D 23) (.bool true) u45), (46, sel (D 24) (.bool false) u46), (47, sel (D 25) (.bool false) u47)] ∧ (Low W w) ∧ (D 2 = true → RowL w W.heap.size A2 n (Srt.srt L)) ∧ (D 21 = true → RowL w W.heap.size A3 n (Srt.srt L))) (by kernel_rfl) (by kernel_rfl) ?_ ?_ ?_
      · refine ⟨none, 0, none, 0, ?_, Low.mk_ _, fun h => Bool.noConfusion h, fun h => Bool.noConfusion h⟩
        simp [upd, Act.put]
      · refine ⟨?_, ?_, ?_, ?_, ?_, ?_, ?_, ?_, ?_, ?_, ?_, ?_, ?_, ?_, ?_, ?_, ?_, ?_, ?_, ?_, ?_, ?_, ?_, ?_, ?_, ?_, trivial⟩
        · intro D a w' K hClo hk0 hd hJ
          change D 0 = false at hk0
          obtain ⟨A2, c2, A3, c3, rfl, hlow, hr2, hr3⟩ := hJ
          intro hK
          have n3 : D 3 = false := hClo.no 3 rfl (k := 0) (by decide) hk0
          have n4 : D 4 = false := hClo.no 4 rfl (k := 3) (by decide) n3
          have n5 : D 5 = false := hClo.no 5 rfl (k := 3) (by decide) n3
          have n6 : D 6 = false := hClo.no 6 rfl (k := 5) (by decide) n5
          have n7 : D 7 = false := hClo.no 7 rfl (k := 5) (by decide) n5
          have n8 : D 8 = false := hClo.no 8 rfl (k := 5) (by decide) n5
          have n9 : D 9 = false := hClo.no 9 rfl (k := 5) (by decide) n5
          have n10 : D 10 = false := hClo.no 10 rfl (k := 5) (by decide) n5
          have n11 : D 11 = false := hClo.no 11 rfl (k := 5) (by decide) n5
          have n12 : D 12 = false := hClo.no 12 rfl (k := 9) (by decide) n9
          have n13 : D 13 = false := hClo.no 13 rfl (k := 12) (by decide) n12
          have n14 : D 14 = false := hClo.no 14 rfl (k := 12) (by decide) n12
          have n15 : D 15 = false := hClo.no 15 rfl (k := 12) (by decide) n12
          have n16 : D 16 = false := hClo.no 16 rfl (k := 12) (by decide) n12
          have n17 : D 17 = false := hClo.no 17 rfl (k := 12) (by decide) n12
          have n18 : D 18 = false := hClo.no 18 rfl (k := 12) (by decide) n12
          have n19 : D 19 = false := hClo.no 19 rfl (k := 16) (by decide) n16
          have n20 : D 20 = false := hClo.no 20 rfl (k := 19) (by decide) n19
          have n21 : D 21 = false := hClo.no 21 rfl (k := 19) (by decide) n19
          have n22 : D 22 = false := hClo.no 22 rfl (k := 19) (by decide) n19
          have n23 : D 23 = false := hClo.no 23 rfl (k := 19) (by decide) n19
          have n24 : D 24 = false := hClo.no 24 rfl (k := 19) (by decide) n19
          have n25 : D 25 = false := hClo.no 25 rfl (k := 19) (by decide) n19
          clear hClo hd
          have y0 := (hlow.b.cell (p := ⟨bn, 0, none⟩) hbn).trans z0
          have y1 := (hlow.b.cell (p := ⟨bn, 1, none⟩) hbn).trans z1
          have y2 := (hlow.b.cell (p := ⟨bn, 2, none⟩) hbn).trans z2
          have y3 := (hlow.b.cell (p := ⟨bn, 3, none⟩) hbn).trans z3
          have y4 := (hlow.b.cell (p := ⟨bn, 4, none⟩) hbn).trans z4
          have y5 := (hlow.b.cell (p := ⟨bn, 5, none⟩) hbn).trans z5
          have y6 := (hlow.b.cell (p := ⟨bn, 6, none⟩) hbn).trans z6
          simp only [upd, Act.put, List.setIfInBounds_toArray, List.set_cons_zero, List.set_cons_succ]
          go_wp2_with fail
          refine hK _ _ ⟨A2, c2, A3, c3, ?_, ?_, ?_, ?_⟩
          · clear hK
            simp [upd, Act.put, also, *]
          · exact hlow
          · exact fun h => (hr2 (by simpa [also] using h))
          · exact fun h => by simp [also, *] at h
        · intro D a w' K hClo hk0 hd hJ
          change D 1 = false at hk0
          obtain ⟨A2, c2, A3, c3, rfl, hlow, hr2, hr3⟩ := hJ
          intro hK
          have n2 : D 2 = false := hClo.no 2 rfl (k := 1) (by decide) hk0
          have n3 : D 3 = false := hClo.no 3 rfl (k := 2) (by decide) n2
          have n4 : D 4 = false := hClo.no 4 rfl (k := 3) (by decide) n3
          have n5 : D 5 = false := hClo.no 5 rfl (k := 3) (by decide) n3
          have n6 : D 6 = false := hClo.no 6 rfl (k := 5) (by decide) n5
          have n7 : D 7 = false := hClo.no 7 rfl (k := 5) (by decide) n5
          have n8 : D 8 = false := hClo.no 8 rfl (k := 5) (by decide) n5
          have n9 : D 9 = false := hClo.no 9 rfl (k := 5) (by decide) n5
          have n10 : D 10 = false := hClo.no 10 rfl (k := 5) (by decide) n5
          have n11 : D 11 = false := hClo.no 11 rfl (k := 5) (by decide) n5
          have n12 : D 12 = false := hClo.no 12 rfl (k := 9) (by decide) n9
          have n13 : D 13 = false := hClo.no 13 rfl (k := 12) (by decide) n12
          have n14 : D 14 = false := hClo.no 14 rfl (k := 12) (by decide) n12
          have n15 : D 15 = false := hClo.no 15 rfl (k := 12) (by decide) n12
          have n16 : D 16 = false := hClo.no 16 rfl (k := 12) (by decide) n12
          have n17 : D 17 = false := hClo.no 17 rfl (k := 12) (by decide) n12
          have n18 : D 18 = false := hClo.no 18 rfl (k := 12) (by decide) n12
          have n19 : D 19 = false := hClo.no 19 rfl (k := 16) (by decide) n16
          have n20 : D 20 = false := hClo.no 20 rfl (k := 19) (by decide) n19
          have n21 : D 21 = false := hClo.no 21 rfl (k := 19) (by decide) n19
          have n22 : D 22 = false := hClo.no 22 rfl (k := 19) (by decide) n19
          have n23 : D 23 = false := hClo.no 23 rfl (k := 19) (by decide) n19
          have n24 : D 24 = false := hClo.no 24 rfl (k := 19) (by decide) n19
          have n25 : D 25 = false := hClo.no 25 rfl (k := 19) (by decide) n19
          clear hClo hd
          have y0 := (hlow.b.cell (p := ⟨bx, 0, none⟩) hbx).trans x0
          have y1 := (hlow.b.cell (p := ⟨bx, 1, none⟩) hbx).trans x1
          have y2 := (hlow.b.cell (p := ⟨bx, 2, none⟩) hbx).trans x2
          have y3 := (hlow.b.cell (p := ⟨bx, 3, none⟩) hbx).trans x3
          have y4 := (hlow.b.cell (p := ⟨bx, 4, none⟩) hbx).trans x4
          have y5 := (hlow.b.cell (p := ⟨bx, 5, none⟩) hbx).trans x5
          have y6 := (hlow.b.cell (p := ⟨bx, 6, none⟩) hbx).trans x6
          simp only [upd, Act.put, List.setIfInBounds_toArray, List.set_cons_zero, List.set_cons_succ]
          go_wp2_with fail
          refine hK _ _ ⟨A2, c2, A3, c3, ?_, ?_, ?_, ?_⟩
          · clear hK
            simp [upd, Act.put, also, *]
          · exact hlow
          · exact fun h => by simp [also, *] at h
          · exact fun h => by simp [also, *] at h
        · intro D a w' K hClo hk0 hd hJ
          change D 2 = false at hk0
          obtain ⟨A2, c2, A3, c3, rfl, hlow, hr2, hr3⟩ := hJ
          intro hK
          have e1 : D 1 = true := hd 1 (by decide)
          have n3 : D 3 = false := hClo.no 3 rfl (k := 2) (by decide) hk0
          have n4 : D 4 = false := hClo.no 4 rfl (k := 3) (by decide) n3
          have n5 : D 5 = false := hClo.no 5 rfl (k := 3) (by decide) n3
          have n6 : D 6 = false := hClo.no 6 rfl (k := 5) (by decide) n5
          have n7 : D 7 = false := hClo.no 7 rfl (k := 5) (by decide) n5
          have n8 : D 8 = false := hClo.no 8 rfl (k := 5) (by decide) n5
          have n9 : D 9 = false := hClo.no 9 rfl (k := 5) (by decide) n5
          have n10 : D 10 = false := hClo.no 10 rfl (k := 5) (by decide) n5
          have n11 : D 11 = false := hClo.no 11 rfl (k := 5) (by decide) n5
          have n12 : D 12 = false := hClo.no 12 rfl (k := 9) (by decide) n9
          have n13 : D 13 = false := hClo.no 13 rfl (k := 12) (by decide) n12
          have n14 : D 14 = false := hClo.no 14 rfl (k := 12) (by decide) n12
          have n15 : D 15 = false := hClo.no 15 rfl (k := 12) (by decide) n12
          have n16 : D 16 = false := hClo.no 16 rfl (k := 12) (by decide) n12
          have n17 : D 17 = false := hClo.no 17 rfl (k := 12) (by decide) n12
          have n18 : D 18 = false := hClo.no 18 rfl (k := 12) (by decide) n12
          have n19 : D 19 = false := hClo.no 19 rfl (k := 16) (by decide) n16
          have n20 : D 20 = false := hClo.no 20 rfl (k := 19) (by decide) n19
          have n21 : D 21 = false := hClo.no 21 rfl (k := 19) (by decide) n19
          have n22 : D 22 = false := hClo.no 22 rfl (k := 19) (by decide) n19
          have n23 : D 23 = false := hClo.no 23 rfl (k := 19) (by decide) n19
          have n24 : D 24 = false := hClo.no 24 rfl (k := 19) (by decide) n19
          have n25 : D 25 = false := hClo.no 25 rfl (k := 19) (by decide) n19
          clear hClo hd
          have hcall := rnormalize_any ⟨id, cd, br, d, m, am⟩ A n c W.heap.size L w' (HRX.out.below hlow.b) hlow.size (by omega)
          simp only [pv] at hcall
          have HC := hide hcall
          clear hcall
          simp only [upd, Act.put, List.setIfInBounds_toArray, List.set_cons_zero, List.set_cons_succ, e1]
          go_wp2_with fail
          with_reducible refine HC.out.mono ?_
          rintro e w2 ⟨Aa, ca, rfl, hrr, hnc2, hB2⟩
          simp only [pv]
          go_wp2_with fail
          refine hK _ _ ⟨Aa, ca, A3, c3, ?_, ?_, ?_, ?_⟩
          · clear hK
            simp [upd, Act.put, also, *]
          · exact hlow.below hB2
          · exact fun _ => hrr.base_ hlow.size
          · exact fun h => by simp [also, *] at h
        · intro D a w' K hClo hk0 hd hJ
          change D 3 = false at hk0
          obtain ⟨A2, c2, A3, c3, rfl, hlow, hr2, hr3⟩ := hJ
          intro hK
          have e0 : D 0 = true := hd 0 (by decide)
          have e2 : D 2 = true := hd 2 (by decide)
          have n4 : D 4 = false := hClo.no 4 rfl (k := 3) (by decide) hk0
          have n5 : D 5 = false := hClo.no 5 rfl (k := 3) (by decide) hk0
          have n6 : D 6 = false := hClo.no 6 rfl (k := 5) (by decide) n5
          have n7 : D 7 = false := hClo.no 7 rfl (k := 5) (by decide) n5
          have n8 : D 8 = false := hClo.no 8 rfl (k := 5) (by decide) n5
          have n9 : D 9 = false := hClo.no 9 rfl (k := 5) (by decide) n5
          have n10 : D 10 = false := hClo.no 10 rfl (k := 5) (by decide) n5
          have n11 : D 11 = false := hClo.no 11 rfl (k := 5) (by decide) n5
          have n12 : D 12 = false := hClo.no 12 rfl (k := 9) (by decide) n9
          have n13 : D 13 = false := hClo.no 13 rfl (k := 12) (by decide) n12
          have n14 : D 14 = false := hClo.no 14 rfl (k := 12) (by decide) n12
          have n15 : D 15 = false := hClo.no 15 rfl (k := 12) (by decide) n12
          have n16 : D 16 = false := hClo.no 16 rfl (k := 12) (by decide) n12
          have n17 : D 17 = false := hClo.no 17 rfl (k := 12) (by decide) n12
          have n18 : D 18 = false := hClo.no 18 rfl (k := 12) (by decide) n12
          have n19 : D 19 = false := hClo.no 19 rfl (k := 16) (by decide) n16
          have n20 : D 20 = false := hClo.no 20 rfl (k := 19) (by decide) n19
          have n21 : D 21 = false := hClo.no 21 rfl (k := 19) (by decide) n19
          have n22 : D 22 = false := hClo.no 22 rfl (k := 19) (by decide) n19
          have n23 : D 23 = false := hClo.no 23 rfl (k := 19) (by decide) n19
          have n24 : D 24 = false := hClo.no 24 rfl (k := 19) (by decide) n19
          have n25 : D 25 = false := hClo.no 25 rfl (k := 19) (by decide) n19
          clear hClo hd
          have hcall := same_prod ⟨id, cd, br, d, m, am⟩ A1 A2 n c1 c2 w'.heap.size (Srt.srt L) w' ((HRN.out.below hlow.b).more hlow.size) ((hr2 e2).recs (by omega)) (Nat.le_refl _)
          simp only [pv] at hcall
          have HC := hide hcall
          clear hcall
          simp only [upd, Act.put, List.setIfInBounds_toArray, List.set_cons_zero, List.set_cons_succ, e0, e2]
          go_wp2_with fail
          with_reducible refine HC.out.mono ?_
          rintro e w2 ⟨rfl, hB2⟩
          go_wp2_with fail
          refine hK _ _ ⟨A2, c2, A3, c3, ?_, ?_, ?_, ?_⟩
          · clear hK
            simp [upd, Act.put, also, *]
          · exact hlow.below hB2
          · exact fun h => (hr2 (by simpa [also] using h)).below hB2
          · exact fun h => by simp [also, *] at h
        · intro D a w' K hClo hk0 hd hJ
          change D 4 = false at hk0
          obtain ⟨A2, c2, A3, c3, rfl, hlow, hr2, hr3⟩ := hJ
          intro hK
          have e3 : D 3 = true := hd 3 (by decide)
          have n5 : D 5 = false := hClo.no 5 rfl (k := 4) (by decide) hk0
          have n6 : D 6 = false := hClo.no 6 rfl (k := 5) (by decide) n5
          have n7 : D 7 = false := hClo.no 7 rfl (k := 5) (by decide) n5
          have n8 : D 8 = false := hClo.no 8 rfl (k := 5) (by decide) n5
          have n9 : D 9 = false := hClo.no 9 rfl (k := 5) (by decide) n5
          have n10 : D 10 = false := hClo.no 10 rfl (k := 5) (by decide) n5
          have n11 : D 11 = false := hClo.no 11 rfl (k := 5) (by decide) n5
          have n12 : D 12 = false := hClo.no 12 rfl (k := 9) (by decide) n9
          have n13 : D 13 = false := hClo.no 13 rfl (k := 12) (by decide) n12
          have n14 : D 14 = false := hClo.no 14 rfl (k := 12) (by decide) n12
          have n15 : D 15 = false := hClo.no 15 rfl (k := 12) (by decide) n12
          have n16 : D 16 = false := hClo.no 16 rfl (k := 12) (by decide) n12
          have n17 : D 17 = false := hClo.no 17 rfl (k := 12) (by decide) n12
          have n18 : D 18 = false := hClo.no 18 rfl (k := 12) (by decide) n12
          have n19 : D 19 = false := hClo.no 19 rfl (k := 16) (by decide) n16
          have n20 : D 20 = false := hClo.no 20 rfl (k := 19) (by decide) n19
          have n21 : D 21 = false := hClo.no 21 rfl (k := 19) (by decide) n19
          have n22 : D 22 = false := hClo.no 22 rfl (k := 19) (by decide) n19
          have n23 : D 23 = false := hClo.no 23 rfl (k := 19) (by decide) n19
          have n24 : D 24 = false := hClo.no 24 rfl (k := 19) (by decide) n19
          have n25 : D 25 = false := hClo.no 25 rfl (k := 19) (by decide) n19
          clear hClo hd
          simp only [upd, Act.put, List.setIfInBounds_toArray, List.set_cons_zero, List.set_cons_succ, e3]
          go_wp2_with fail
          refine hK _ _ ⟨A2, c2, A3, c3, ?_, ?_, ?_, ?_⟩
          · clear hK
            simp [upd, Act.put, also, *]
          · exact hlow
          · exact fun h => (hr2 (by simpa [also] using h))
          · exact fun h => by simp [also, *] at h
        · intro D a w' K hClo hk0 hd hJ
          change D 5 = false at hk0
          obtain ⟨A2, c2, A3, c3, rfl, hlow, hr2, hr3⟩ := hJ
          intro hK
          have e3 : D 3 = true := hd 3 (by decide)
          have e4 : D 4 = true := hd 4 (by decide)
          have n6 : D 6 = false := hClo.no 6 rfl (k := 5) (by decide) hk0
          have n7 : D 7 = false := hClo.no 7 rfl (k := 5) (by decide) hk0
          have n8 : D 8 = false := hClo.no 8 rfl (k := 5) (by decide) hk0
          have n9 : D 9 = false := hClo.no 9 rfl (k := 5) (by decide) hk0
          have n10 : D 10 = false := hClo.no 10 rfl (k := 5) (by decide) hk0
          have n11 : D 11 = false := hClo.no 11 rfl (k := 5) (by decide) hk0
          have n12 : D 12 = false := hClo.no 12 rfl (k := 9) (by decide) n9
          have n13 : D 13 = false := hClo.no 13 rfl (k := 12) (by decide) n12
          have n14 : D 14 = false := hClo.no 14 rfl (k := 12) (by decide) n12
          have n15 : D 15 = false := hClo.no 15 rfl (k := 12) (by decide) n12
          have n16 : D 16 = false := hClo.no 16 rfl (k := 12) (by decide) n12
          have n17 : D 17 = false := hClo.no 17 rfl (k := 12) (by decide) n12
          have n18 : D 18 = false := hClo.no 18 rfl (k := 12) (by decide) n12
          have n19 : D 19 = false := hClo.no 19 rfl (k := 16) (by decide) n16
          have n20 : D 20 = false := hClo.no 20 rfl (k := 19) (by decide) n19
          have n21 : D 21 = false := hClo.no 21 rfl (k := 19) (by decide) n19
          have n22 : D 22 = false := hClo.no 22 rfl (k := 19) (by decide) n19
          have n23 : D 23 = false := hClo.no 23 rfl (k := 19) (by decide) n19
          have n24 : D 24 = false := hClo.no 24 rfl (k := 19) (by decide) n19
          have n25 : D 25 = false := hClo.no 25 rfl (k := 19) (by decide) n19
          clear hClo hd
          simp only [upd, Act.put, List.setIfInBounds_toArray, List.set_cons_zero, List.set_cons_succ, e3, e4]
          go_wp2_with fail
          refine hK _ _ ⟨A2, c2, A3, c3, ?_, ?_, ?_, ?_⟩
          · clear hK
            simp [upd, Act.put, also, *]
          · exact hlow
          · exact fun h => (hr2 (by simpa [also] using h))
          · exact fun h => by simp [also, *] at h
        · intro D a w' K hClo hk0 hd hJ
          change D 6 = false at hk0
          obtain ⟨A2, c2, A3, c3, rfl, hlow, hr2, hr3⟩ := hJ
          intro hK
          have e5 : D 5 = true := hd 5 (by decide)
          have n7 : D 7 = false := hClo.no 7 rfl (k := 6) (by decide) hk0
          have n9 : D 9 = false := hClo.no 9 rfl (k := 7) (by decide) n7
          have n10 : D 10 = false := hClo.no 10 rfl (k := 7) (by decide) n7
          have n12 : D 12 = false := hClo.no 12 rfl (k := 9) (by decide) n9
          have n11 : D 11 = false := hClo.no 11 rfl (k := 10) (by decide) n10
          have n13 : D 13 = false := hClo.no 13 rfl (k := 12) (by decide) n12
          have n14 : D 14 = false := hClo.no 14 rfl (k := 12) (by decide) n12
          have n15 : D 15 = false := hClo.no 15 rfl (k := 12) (by decide) n12
          have n16 : D 16 = false := hClo.no 16 rfl (k := 12) (by decide) n12
          have n17 : D 17 = false := hClo.no 17 rfl (k := 12) (by decide) n12
          have n18 : D 18 = false := hClo.no 18 rfl (k := 12) (by decide) n12
          have n19 : D 19 = false := hClo.no 19 rfl (k := 16) (by decide) n16
          have n20 : D 20 = false := hClo.no 20 rfl (k := 19) (by decide) n19
          have n21 : D 21 = false := hClo.no 21 rfl (k := 19) (by decide) n19
          have n22 : D 22 = false := hClo.no 22 rfl (k := 19) (by decide) n19
          have n23 : D 23 = false := hClo.no 23 rfl (k := 19) (by decide) n19
          have n24 : D 24 = false := hClo.no 24 rfl (k := 19) (by decide) n19
          have n25 : D 25 = false := hClo.no 25 rfl (k := 19) (by decide) n19
          clear hClo hd
          have y0 := (hlow.b.cell (p := ⟨bx, 0, none⟩) hbx).trans x0
          have y1 := (hlow.b.cell (p := ⟨bx, 1, none⟩) hbx).trans x1
          have y2 := (hlow.b.cell (p := ⟨bx, 2, none⟩) hbx).trans x2
          have y3 := (hlow.b.cell (p := ⟨bx, 3, none⟩) hbx).trans x3
          have y4 := (hlow.b.cell (p := ⟨bx, 4, none⟩) hbx).trans x4
          have y5 := (hlow.b.cell (p := ⟨bx, 5, none⟩) hbx).trans x5
          have y6 := (hlow.b.cell (p := ⟨bx, 6, none⟩) hbx).trans x6
          simp only [upd, Act.put, List.setIfInBounds_toArray, List.set_cons_zero, List.set_cons_succ, e5]
          go_wp2_with fail
          refine hK _ _ ⟨A2, c2, A3, c3, ?_, ?_, ?_, ?_⟩
          · clear hK
            simp [upd, Act.put, also, *]
          · exact hlow
          · exact fun h => (hr2 (by simpa [also] using h))
          · exact fun h => by simp [also, *] at h
        · intro D a w' K hClo hk0 hd hJ
          change D 7 = false at hk0
          obtain ⟨A2, c2, A3, c3, rfl, hlow, hr2, hr3⟩ := hJ
          intro hK
          have e5 : D 5 = true := hd 5 (by decide)
          have e6 : D 6 = true := hd 6 (by decide)
          have n9 : D 9 = false := hClo.no 9 rfl (k := 7) (by decide) hk0
          have n10 : D 10 = false := hClo.no 10 rfl (k := 7) (by decide) hk0
          have n12 : D 12 = false := hClo.no 12 rfl (k := 9) (by decide) n9
          have n11 : D 11 = false := hClo.no 11 rfl (k := 10) (by decide) n10
          have n13 : D 13 = false := hClo.no 13 rfl (k := 12) (by decide) n12
          have n14 : D 14 = false := hClo.no 14 rfl (k := 12) (by decide) n12
          have n15 : D 15 = false := hClo.no 15 rfl (k := 12) (by decide) n12
          have n16 : D 16 = false := hClo.no 16 rfl (k := 12) (by decide) n12
          have n17 : D 17 = false := hClo.no 17 rfl (k := 12) (by decide) n12
          have n18 : D 18 = false := hClo.no 18 rfl (k := 12) (by decide) n12
          have n19 : D 19 = false := hClo.no 19 rfl (k := 16) (by decide) n16
          have n20 : D 20 = false := hClo.no 20 rfl (k := 19) (by decide) n19
          have n21 : D 21 = false := hClo.no 21 rfl (k := 19) (by decide) n19
          have n22 : D 22 = false := hClo.no 22 rfl (k := 19) (by decide) n19
          have n23 : D 23 = false := hClo.no 23 rfl (k := 19) (by decide) n19
          have n24 : D 24 = false := hClo.no 24 rfl (k := 19) (by decide) n19
          have n25 : D 25 = false := hClo.no 25 rfl (k := 19) (by decide) n19
          clear hClo hd
          have hcall := key_any ⟨id, cd, br, d, m, am⟩ A n c W.heap.size L w' (HRX.out.below hlow.b) hlow.size (by omega) HS1.out HS2.out HSS.out
          simp only [pv] at hcall
          have HC := hide hcall
          clear hcall
          simp only [upd, Act.put, List.setIfInBounds_toArray, List.set_cons_zero, List.set_cons_succ, e5, e6]
          go_wp2_with fail
          with_reducible refine HC.out.mono ?_
          rintro e w2 ⟨rfl, hB2⟩
          go_wp2_with fail
          refine hK _ _ ⟨A2, c2, A3, c3, ?_, ?_, ?_, ?_⟩
          · clear hK
            simp [upd, Act.put, also, *]
          · exact hlow.below hB2
          · exact fun h => (hr2 (by simpa [also] using h)).below hB2
          · exact fun h => by simp [also, *] at h
        · intro D a w' K hClo hk0 hd hJ
          change D 8 = false at hk0
          obtain ⟨A2, c2, A3, c3, rfl, hlow, hr2, hr3⟩ := hJ
          intro hK
          have e5 : D 5 = true := hd 5 (by decide)
          have n9 : D 9 = false := hClo.no 9 rfl (k := 8) (by decide) hk0
          have n10 : D 10 = false := hClo.no 10 rfl (k := 9) (by decide) n9
          have n12 : D 12 = false := hClo.no 12 rfl (k := 9) (by decide) n9
          have n11 : D 11 = false := hClo.no 11 rfl (k := 10) (by decide) n10
          have n13 : D 13 = false := hClo.no 13 rfl (k := 12) (by decide) n12
          have n14 : D 14 = false := hClo.no 14 rfl (k := 12) (by decide) n12
          have n15 : D 15 = false := hClo.no 15 rfl (k := 12) (by decide) n12
          have n16 : D 16 = false := hClo.no 16 rfl (k := 12) (by decide) n12
          have n17 : D 17 = false := hClo.no 17 rfl (k := 12) (by decide) n12
          have n18 : D 18 = false := hClo.no 18 rfl (k := 12) (by decide) n12
          have n19 : D 19 = false := hClo.no 19 rfl (k := 16) (by decide) n16
          have n20 : D 20 = false := hClo.no 20 rfl (k := 19) (by decide) n19
          have n21 : D 21 = false := hClo.no 21 rfl (k := 19) (by decide) n19
          have n22 : D 22 = false := hClo.no 22 rfl (k := 19) (by decide) n19
          have n23 : D 23 = false := hClo.no 23 rfl (k := 19) (by decide) n19
          have n24 : D 24 = false := hClo.no 24 rfl (k := 19) (by decide) n19
          have n25 : D 25 = false := hClo.no 25 rfl (k := 19) (by decide) n19
          clear hClo hd
          have y0 := (hlow.b.cell (p := ⟨bx, 0, none⟩) hbx).trans x0
          have y1 := (hlow.b.cell (p := ⟨bx, 1, none⟩) hbx).trans x1
          have y2 := (hlow.b.cell (p := ⟨bx, 2, none⟩) hbx).trans x2
          have y3 := (hlow.b.cell (p := ⟨bx, 3, none⟩) hbx).trans x3
          have y4 := (hlow.b.cell (p := ⟨bx, 4, none⟩) hbx).trans x4
          have y5 := (hlow.b.cell (p := ⟨bx, 5, none⟩) hbx).trans x5
          have y6 := (hlow.b.cell (p := ⟨bx, 6, none⟩) hbx).trans x6
          simp only [upd, Act.put, List.setIfInBounds_toArray, List.set_cons_zero, List.set_cons_succ, e5]
          go_wp2_with fail
          refine hK _ _ ⟨A2, c2, A3, c3, ?_, ?_, ?_, ?_⟩
          · clear hK
            simp [upd, Act.put, also, *]
          · exact hlow
          · exact fun h => (hr2 (by simpa [also] using h))
          · exact fun h => by simp [also, *] at h
        · intro D a w' K hClo hk0 hd hJ
          change D 9 = false at hk0
          obtain ⟨A2, c2, A3, c3, rfl, hlow, hr2, hr3⟩ := hJ
          intro hK
          have e5 : D 5 = true := hd 5 (by decide)
          have e7 : D 7 = true := hd 7 (by decide)
          have e8 : D 8 = true := hd 8 (by decide)
          have n10 : D 10 = false := hClo.no 10 rfl (k := 9) (by decide) hk0
          have n12 : D 12 = false := hClo.no 12 rfl (k := 9) (by decide) hk0
          have n11 : D 11 = false := hClo.no 11 rfl (k := 10) (by decide) n10
          have n13 : D 13 = false := hClo.no 13 rfl (k := 12) (by decide) n12
          have n14 : D 14 = false := hClo.no 14 rfl (k := 12) (by decide) n12
          have n15 : D 15 = false := hClo.no 15 rfl (k := 12) (by decide) n12
          have n16 : D 16 = false := hClo.no 16 rfl (k := 12) (by decide) n12
          have n17 : D 17 = false := hClo.no 17 rfl (k := 12) (by decide) n12
          have n18 : D 18 = false := hClo.no 18 rfl (k := 12) (by decide) n12
          have n19 : D 19 = false := hClo.no 19 rfl (k := 16) (by decide) n16
          have n20 : D 20 = false := hClo.no 20 rfl (k := 19) (by decide) n19
          have n21 : D 21 = false := hClo.no 21 rfl (k := 19) (by decide) n19
          have n22 : D 22 = false := hClo.no 22 rfl (k := 19) (by decide) n19
          have n23 : D 23 = false := hClo.no 23 rfl (k := 19) (by decide) n19
          have n24 : D 24 = false := hClo.no 24 rfl (k := 19) (by decide) n19
          have n25 : D 25 = false := hClo.no 25 rfl (k := 19) (by decide) n19
          clear hClo hd
          have hcall := rkey_any ⟨id, cd, br, d, m, am⟩ A n c W.heap.size L w' (HRX.out.below hlow.b) hlow.size (by omega) HS1.out HS2.out HSS.out
          simp only [pv] at hcall
          have HC := hide hcall
          clear hcall
          simp only [upd, Act.put, List.setIfInBounds_toArray, List.set_cons_zero, List.set_cons_succ, e5, e7, e8]
          go_wp2_with fail
          with_reducible refine HC.out.mono ?_
          rintro e w2 ⟨rfl, hB2⟩
          go_wp2_with fail
          refine hK _ _ ⟨A2, c2, A3, c3, ?_, ?_, ?_, ?_⟩
          · clear hK
            simp [upd, Act.put, also, *]
          · exact hlow.below hB2
          · exact fun h => (hr2 (by simpa [also] using h)).below hB2
          · exact fun h => by simp [also, *] at h
        · intro D a w' K hClo hk0 hd hJ
          change D 10 = false at hk0
          obtain ⟨A2, c2, A3, c3, rfl, hlow, hr2, hr3⟩ := hJ
          intro hK
          have e5 : D 5 = true := hd 5 (by decide)
          have e7 : D 7 = true := hd 7 (by decide)
          have e9 : D 9 = true := hd 9 (by decide)
          have n11 : D 11 = false := hClo.no 11 rfl (k := 10) (by decide) hk0
          have n12 : D 12 = false := hClo.no 12 rfl (k := 11) (by decide) n11
          have n13 : D 13 = false := hClo.no 13 rfl (k := 12) (by decide) n12
          have n14 : D 14 = false := hClo.no 14 rfl (k := 12) (by decide) n12
          have n15 : D 15 = false := hClo.no 15 rfl (k := 12) (by decide) n12
          have n16 : D 16 = false := hClo.no 16 rfl (k := 12) (by decide) n12
          have n17 : D 17 = false := hClo.no 17 rfl (k := 12) (by decide) n12
          have n18 : D 18 = false := hClo.no 18 rfl (k := 12) (by decide) n12
          have n19 : D 19 = false := hClo.no 19 rfl (k := 16) (by decide) n16
          have n20 : D 20 = false := hClo.no 20 rfl (k := 19) (by decide) n19
          have n21 : D 21 = false := hClo.no 21 rfl (k := 19) (by decide) n19
          have n22 : D 22 = false := hClo.no 22 rfl (k := 19) (by decide) n19
          have n23 : D 23 = false := hClo.no 23 rfl (k := 19) (by decide) n19
          have n24 : D 24 = false := hClo.no 24 rfl (k := 19) (by decide) n19
          have n25 : D 25 = false := hClo.no 25 rfl (k := 19) (by decide) n19
          clear hClo hd
          simp only [upd, Act.put, List.setIfInBounds_toArray, List.set_cons_zero, List.set_cons_succ, e5, e7, e9]
          go_wp2_with fail
          refine hK _ _ ⟨A2, c2, A3, c3, ?_, ?_, ?_, ?_⟩
          · clear hK
            simp [upd, Act.put, also, *]
          · exact hlow
          · exact fun h => (hr2 (by simpa [also] using h))
          · exact fun h => by simp [also, *] at h
        · intro D a w' K hClo hk0 hd hJ
          change D 11 = false at hk0
          obtain ⟨A2, c2, A3, c3, rfl, hlow, hr2, hr3⟩ := hJ
          intro hK
          have e5 : D 5 = true := hd 5 (by decide)
          have e10 : D 10 = true := hd 10 (by decide)
          have n12 : D 12 = false := hClo.no 12 rfl (k := 11) (by decide) hk0
          have n13 : D 13 = false := hClo.no 13 rfl (k := 12) (by decide) n12
          have n14 : D 14 = false := hClo.no 14 rfl (k := 12) (by decide) n12
          have n15 : D 15 = false := hClo.no 15 rfl (k := 12) (by decide) n12
          have n16 : D 16 = false := hClo.no 16 rfl (k := 12) (by decide) n12
          have n17 : D 17 = false := hClo.no 17 rfl (k := 12) (by decide) n12
          have n18 : D 18 = false := hClo.no 18 rfl (k := 12) (by decide) n12
          have n19 : D 19 = false := hClo.no 19 rfl (k := 16) (by decide) n16
          have n20 : D 20 = false := hClo.no 20 rfl (k := 19) (by decide) n19
          have n21 : D 21 = false := hClo.no 21 rfl (k := 19) (by decide) n19
          have n22 : D 22 = false := hClo.no 22 rfl (k := 19) (by decide) n19
          have n23 : D 23 = false := hClo.no 23 rfl (k := 19) (by decide) n19
          have n24 : D 24 = false := hClo.no 24 rfl (k := 19) (by decide) n19
          have n25 : D 25 = false := hClo.no 25 rfl (k := 19) (by decide) n19
          clear hClo hd
          simp only [upd, Act.put, List.setIfInBounds_toArray, List.set_cons_zero, List.set_cons_succ, e5, e10]
          go_wp2_with fail
          refine hK _ _ ⟨A2, c2, A3, c3, ?_, ?_, ?_, ?_⟩
          · clear hK
            simp [upd, Act.put, also, *]
          · exact hlow
          · exact fun h => (hr2 (by simpa [also] using h))
          · exact fun h => by simp [also, *] at h
        · intro D a w' K hClo hk0 hd hJ
          change D 12 = false at hk0
          obtain ⟨A2, c2, A3, c3, rfl, hlow, hr2, hr3⟩ := hJ
          intro hK
          have e9 : D 9 = true := hd 9 (by decide)
          have e11 : D 11 = true := hd 11 (by decide)
          have n13 : D 13 = false := hClo.no 13 rfl (k := 12) (by decide) hk0
          have n14 : D 14 = false := hClo.no 14 rfl (k := 12) (by decide) hk0
          have n15 : D 15 = false := hClo.no 15 rfl (k := 12) (by decide) hk0
          have n16 : D 16 = false := hClo.no 16 rfl (k := 12) (by decide) hk0
          have n17 : D 17 = false := hClo.no 17 rfl (k := 12) (by decide) hk0
          have n18 : D 18 = false := hClo.no 18 rfl (k := 12) (by decide) hk0
          have n19 : D 19 = false := hClo.no 19 rfl (k := 16) (by decide) n16
          have n20 : D 20 = false := hClo.no 20 rfl (k := 19) (by decide) n19
          have n21 : D 21 = false := hClo.no 21 rfl (k := 19) (by decide) n19
          have n22 : D 22 = false := hClo.no 22 rfl (k := 19) (by decide) n19
          have n23 : D 23 = false := hClo.no 23 rfl (k := 19) (by decide) n19
          have n24 : D 24 = false := hClo.no 24 rfl (k := 19) (by decide) n19
          have n25 : D 25 = false := hClo.no 25 rfl (k := 19) (by decide) n19
          clear hClo hd
          simp only [upd, Act.put, List.setIfInBounds_toArray, List.set_cons_zero, List.set_cons_succ, e9, e11]
          go_wp2_with fail
          refine hK _ _ ⟨A2, c2, A3, c3, ?_, ?_, ?_, ?_⟩
          · clear hK
            simp [upd, Act.put, also, *]
          · exact hlow
          · exact fun h => (hr2 (by simpa [also] using h))
          · exact fun h => by simp [also, *] at h
        · intro D a w' K hClo hk0 hd hJ
          change D 13 = false at hk0
          obtain ⟨A2, c2, A3, c3, rfl, hlow, hr2, hr3⟩ := hJ
          intro hK
          have e12 : D 12 = true := hd 12 (by decide)
          have n14 : D 14 = false := hClo.no 14 rfl (k := 13) (by decide) hk0
          have n16 : D 16 = false := hClo.no 16 rfl (k := 14) (by decide) n14
          have n17 : D 17 = false := hClo.no 17 rfl (k := 14) (by decide) n14
          have n19 : D 19 = false := hClo.no 19 rfl (k := 16) (by decide) n16
          have n18 : D 18 = false := hClo.no 18 rfl (k := 17) (by decide) n17
          have n20 : D 20 = false := hClo.no 20 rfl (k := 19) (by decide) n19
          have n21 : D 21 = false := hClo.no 21 rfl (k := 19) (by decide) n19
          have n22 : D 22 = false := hClo.no 22 rfl (k := 19) (by decide) n19
          have n23 : D 23 = false := hClo.no 23 rfl (k := 19) (by decide) n19
          have n24 : D 24 = false := hClo.no 24 rfl (k := 19) (by decide) n19
          have n25 : D 25 = false := hClo.no 25 rfl (k := 19) (by decide) n19
          clear hClo hd
          have y0 := (hlow.b.cell (p := ⟨bn, 0, none⟩) hbn).trans z0
          have y1 := (hlow.b.cell (p := ⟨bn, 1, none⟩) hbn).trans z1
          have y2 := (hlow.b.cell (p := ⟨bn, 2, none⟩) hbn).trans z2
          have y3 := (hlow.b.cell (p := ⟨bn, 3, none⟩) hbn).trans z3
          have y4 := (hlow.b.cell (p := ⟨bn, 4, none⟩) hbn).trans z4
          have y5 := (hlow.b.cell (p := ⟨bn, 5, none⟩) hbn).trans z5
          have y6 := (hlow.b.cell (p := ⟨bn, 6, none⟩) hbn).trans z6
          simp only [upd, Act.put, List.setIfInBounds_toArray, List.set_cons_zero, List.set_cons_succ, e12]
          go_wp2_with fail
          refine hK _ _ ⟨A2, c2, A3, c3, ?_, ?_, ?_, ?_⟩
          · clear hK
            simp [upd, Act.put, also, *]
          · exact hlow
          · exact fun h => (hr2 (by simpa [also] using h))
          · exact fun h => by simp [also, *] at h
        · intro D a w' K hClo hk0 hd hJ
          change D 14 = false at hk0
          obtain ⟨A2, c2, A3, c3, rfl, hlow, hr2, hr3⟩ := hJ
          intro hK
          have e12 : D 12 = true := hd 12 (by decide)
          have e13 : D 13 = true := hd 13 (by decide)
          have n16 : D 16 = false := hClo.no 16 rfl (k := 14) (by decide) hk0
          have n17 : D 17 = false := hClo.no 17 rfl (k := 14) (by decide) hk0
          have n19 : D 19 = false := hClo.no 19 rfl (k := 16) (by decide) n16
          have n18 : D 18 = false := hClo.no 18 rfl (k := 17) (by decide) n17
          have n20 : D 20 = false := hClo.no 20 rfl (k := 19) (by decide) n19
          have n21 : D 21 = false := hClo.no 21 rfl (k := 19) (by decide) n19
          have n22 : D 22 = false := hClo.no 22 rfl (k := 19) (by decide) n19
          have n23 : D 23 = false := hClo.no 23 rfl (k := 19) (by decide) n19
          have n24 : D 24 = false := hClo.no 24 rfl (k := 19) (by decide) n19
          have n25 : D 25 = false := hClo.no 25 rfl (k := 19) (by decide) n19
          clear hClo hd
          have hcall := (show Calls _ _ _ _ _ from by have h := key_any ⟨id, cd, br, d, m, am⟩ A1 n c1 W.heap.size (Srt.srt L) w' (HRN.out.below hlow.b) hlow.size (by omega) HS1.out HS2.out (fun r hr => HSS.out r (Srt.mem_srt.1 hr)); rw [Srt.srt_srt] at h; exact h)
          simp only [pv] at hcall
          have HC := hide hcall
          clear hcall
          simp only [upd, Act.put, List.setIfInBounds_toArray, List.set_cons_zero, List.set_cons_succ, e12, e13]
          go_wp2_with fail
          with_reducible refine HC.out.mono ?_
          rintro e w2 ⟨rfl, hB2⟩
          go_wp2_with fail
          refine hK _ _ ⟨A2, c2, A3, c3, ?_, ?_, ?_, ?_⟩
          · clear hK
            simp [upd, Act.put, also, *]
          · exact hlow.below hB2
          · exact fun h => (hr2 (by simpa [also] using h)).below hB2
          · exact fun h => by simp [also, *] at h
        · intro D a w' K hClo hk0 hd hJ
          change D 15 = false at hk0
          obtain ⟨A2, c2, A3, c3, rfl, hlow, hr2, hr3⟩ := hJ
          intro hK
          have e12 : D 12 = true := hd 12 (by decide)
          have n16 : D 16 = false := hClo.no 16 rfl (k := 15) (by decide) hk0
          have n17 : D 17 = false := hClo.no 17 rfl (k := 16) (by decide) n16
          have n19 : D 19 = false := hClo.no 19 rfl (k := 16) (by decide) n16
          have n18 : D 18 = false := hClo.no 18 rfl (k := 17) (by decide) n17
          have n20 : D 20 = false := hClo.no 20 rfl (k := 19) (by decide) n19
          have n21 : D 21 = false := hClo.no 21 rfl (k := 19) (by decide) n19
          have n22 : D 22 = false := hClo.no 22 rfl (k := 19) (by decide) n19
          have n23 : D 23 = false := hClo.no 23 rfl (k := 19) (by decide) n19
          have n24 : D 24 = false := hClo.no 24 rfl (k := 19) (by decide) n19
          have n25 : D 25 = false := hClo.no 25 rfl (k := 19) (by decide) n19
          clear hClo hd
          have y0 := (hlow.b.cell (p := ⟨bx, 0, none⟩) hbx).trans x0
          have y1 := (hlow.b.cell (p := ⟨bx, 1, none⟩) hbx).trans x1
          have y2 := (hlow.b.cell (p := ⟨bx, 2, none⟩) hbx).trans x2
          have y3 := (hlow.b.cell (p := ⟨bx, 3, none⟩) hbx).trans x3
          have y4 := (hlow.b.cell (p := ⟨bx, 4, none⟩) hbx).trans x4
          have y5 := (hlow.b.cell (p := ⟨bx, 5, none⟩) hbx).trans x5
          have y6 := (hlow.b.cell (p := ⟨bx, 6, none⟩) hbx).trans x6
          simp only [upd, Act.put, List.setIfInBounds_toArray, List.set_cons_zero, List.set_cons_succ, e12]
          go_wp2_with fail
          refine hK _ _ ⟨A2, c2, A3, c3, ?_, ?_, ?_, ?_⟩
          · clear hK
            simp [upd, Act.put, also, *]
          · exact hlow
          · exact fun h => (hr2 (by simpa [also] using h))
          · exact fun h => by simp [also, *] at h
        · intro D a w' K hClo hk0 hd hJ
          change D 16 = false at hk0
          obtain ⟨A2, c2, A3, c3, rfl, hlow, hr2, hr3⟩ := hJ
          intro hK
          have e12 : D 12 = true := hd 12 (by decide)
          have e14 : D 14 = true := hd 14 (by decide)
          have e15 : D 15 = true := hd 15 (by decide)
          have n17 : D 17 = false := hClo.no 17 rfl (k := 16) (by decide) hk0
          have n19 : D 19 = false := hClo.no 19 rfl (k := 16) (by decide) hk0
          have n18 : D 18 = false := hClo.no 18 rfl (k := 17) (by decide) n17
          have n20 : D 20 = false := hClo.no 20 rfl (k := 19) (by decide) n19
          have n21 : D 21 = false := hClo.no 21 rfl (k := 19) (by decide) n19
          have n22 : D 22 = false := hClo.no 22 rfl (k := 19) (by decide) n19
          have n23 : D 23 = false := hClo.no 23 rfl (k := 19) (by decide) n19
          have n24 : D 24 = false := hClo.no 24 rfl (k := 19) (by decide) n19
          have n25 : D 25 = false := hClo.no 25 rfl (k := 19) (by decide) n19
          clear hClo hd
          have hcall := key_any ⟨id, cd, br, d, m, am⟩ A n c W.heap.size L w' (HRX.out.below hlow.b) hlow.size (by omega) HS1.out HS2.out HSS.out
          simp only [pv] at hcall
          have HC := hide hcall
          clear hcall
          simp only [upd, Act.put, List.setIfInBounds_toArray, List.set_cons_zero, List.set_cons_succ, e12, e14, e15]
          go_wp2_with fail
          with_reducible refine HC.out.mono ?_
          rintro e w2 ⟨rfl, hB2⟩
          go_wp2_with fail
          refine hK _ _ ⟨A2, c2, A3, c3, ?_, ?_, ?_, ?_⟩
          · clear hK
            simp [upd, Act.put, also, *]
          · exact hlow.below hB2
          · exact fun h => (hr2 (by simpa [also] using h)).below hB2
          · exact fun h => by simp [also, *] at h
        · intro D a w' K hClo hk0 hd hJ
          change D 17 = false at hk0
          obtain ⟨A2, c2, A3, c3, rfl, hlow, hr2, hr3⟩ := hJ
          intro hK
          have e12 : D 12 = true := hd 12 (by decide)
          have e14 : D 14 = true := hd 14 (by decide)
          have e16 : D 16 = true := hd 16 (by decide)
          have n18 : D 18 = false := hClo.no 18 rfl (k := 17) (by decide) hk0
          have n19 : D 19 = false := hClo.no 19 rfl (k := 18) (by decide) n18
          have n20 : D 20 = false := hClo.no 20 rfl (k := 19) (by decide) n19
          have n21 : D 21 = false := hClo.no 21 rfl (k := 19) (by decide) n19
          have n22 : D 22 = false := hClo.no 22 rfl (k := 19) (by decide) n19
          have n23 : D 23 = false := hClo.no 23 rfl (k := 19) (by decide) n19
          have n24 : D 24 = false := hClo.no 24 rfl (k := 19) (by decide) n19
          have n25 : D 25 = false := hClo.no 25 rfl (k := 19) (by decide) n19
          clear hClo hd
          simp only [upd, Act.put, List.setIfInBounds_toArray, List.set_cons_zero, List.set_cons_succ, e12, e14, e16]
          go_wp2_with fail
          refine hK _ _ ⟨A2, c2, A3, c3, ?_, ?_, ?_, ?_⟩
          · clear hK
            simp [upd, Act.put, also, *]
          · exact hlow
          · exact fun h => (hr2 (by simpa [also] using h))
          · exact fun h => by simp [also, *] at h
        · intro D a w' K hClo hk0 hd hJ
          change D 18 = false at hk0
          obtain ⟨A2, c2, A3, c3, rfl, hlow, hr2, hr3⟩ := hJ
          intro hK
          have e12 : D 12 = true := hd 12 (by decide)
          have e17 : D 17 = true := hd 17 (by decide)
          have n19 : D 19 = false := hClo.no 19 rfl (k := 18) (by decide) hk0
          have n20 : D 20 = false := hClo.no 20 rfl (k := 19) (by decide) n19
          have n21 : D 21 = false := hClo.no 21 rfl (k := 19) (by decide) n19
          have n22 : D 22 = false := hClo.no 22 rfl (k := 19) (by decide) n19
          have n23 : D 23 = false := hClo.no 23 rfl (k := 19) (by decide) n19
          have n24 : D 24 = false := hClo.no 24 rfl (k := 19) (by decide) n19
          have n25 : D 25 = false := hClo.no 25 rfl (k := 19) (by decide) n19
          clear hClo hd
          simp only [upd, Act.put, List.setIfInBounds_toArray, List.set_cons_zero, List.set_cons_succ, e12, e17]
          go_wp2_with fail
          refine hK _ _ ⟨A2, c2, A3, c3, ?_, ?_, ?_, ?_⟩
          · clear hK
            simp [upd, Act.put, also, *]
          · exact hlow
          · exact fun h => (hr2 (by simpa [also] using h))
          · exact fun h => by simp [also, *] at h
        · intro D a w' K hClo hk0 hd hJ
          change D 19 = false at hk0
          obtain ⟨A2, c2, A3, c3, rfl, hlow, hr2, hr3⟩ := hJ
          intro hK
          have e16 : D 16 = true := hd 16 (by decide)
          have e18 : D 18 = true := hd 18 (by decide)
          have n20 : D 20 = false := hClo.no 20 rfl (k := 19) (by decide) hk0
          have n21 : D 21 = false := hClo.no 21 rfl (k := 19) (by decide) hk0
          have n22 : D 22 = false := hClo.no 22 rfl (k := 19) (by decide) hk0
          have n23 : D 23 = false := hClo.no 23 rfl (k := 19) (by decide) hk0
          have n24 : D 24 = false := hClo.no 24 rfl (k := 19) (by decide) hk0
          have n25 : D 25 = false := hClo.no 25 rfl (k := 19) (by decide) hk0
          clear hClo hd
          simp only [upd, Act.put, List.setIfInBounds_toArray, List.set_cons_zero, List.set_cons_succ, e16, e18]
          go_wp2_with fail
          refine hK _ _ ⟨A2, c2, A3, c3, ?_, ?_, ?_, ?_⟩
          · clear hK
            simp [upd, Act.put, also, *]
          · exact hlow
          · exact fun h => (hr2 (by simpa [also] using h))
          · exact fun h => by simp [also, *] at h
        · intro D a w' K hClo hk0 hd hJ
          change D 20 = false at hk0
          obtain ⟨A2, c2, A3, c3, rfl, hlow, hr2, hr3⟩ := hJ
          intro hK
          have e19 : D 19 = true := hd 19 (by decide)
          have n21 : D 21 = false := hClo.no 21 rfl (k := 20) (by decide) hk0
          have n23 : D 23 = false := hClo.no 23 rfl (k := 21) (by decide) n21
          have n24 : D 24 = false := hClo.no 24 rfl (k := 23) (by decide) n23
          have n25 : D 25 = false := hClo.no 25 rfl (k := 24) (by decide) n24
          clear hClo hd
          have y0 := (hlow.b.cell (p := ⟨bn, 0, none⟩) hbn).trans z0
          have y1 := (hlow.b.cell (p := ⟨bn, 1, none⟩) hbn).trans z1
          have y2 := (hlow.b.cell (p := ⟨bn, 2, none⟩) hbn).trans z2
          have y3 := (hlow.b.cell (p := ⟨bn, 3, none⟩) hbn).trans z3
          have y4 := (hlow.b.cell (p := ⟨bn, 4, none⟩) hbn).trans z4
          have y5 := (hlow.b.cell (p := ⟨bn, 5, none⟩) hbn).trans z5
          have y6 := (hlow.b.cell (p := ⟨bn, 6, none⟩) hbn).trans z6
          simp only [upd, Act.put, List.setIfInBounds_toArray, List.set_cons_zero, List.set_cons_succ, e19]
          go_wp2_with fail
          refine hK _ _ ⟨A2, c2, A3, c3, ?_, ?_, ?_, ?_⟩
          · clear hK
            simp [upd, Act.put, also, *]
          · exact hlow
          · exact fun h => (hr2 (by simpa [also] using h))
          · exact fun h => by simp [also, *] at h
        · intro D a w' K hClo hk0 hd hJ
          change D 21 = false at hk0
          obtain ⟨A2, c2, A3, c3, rfl, hlow, hr2, hr3⟩ := hJ
          intro hK
          have e19 : D 19 = true := hd 19 (by decide)
          have e20 : D 20 = true := hd 20 (by decide)
          have n23 : D 23 = false := hClo.no 23 rfl (k := 21) (by decide) hk0
          have n24 : D 24 = false := hClo.no 24 rfl (k := 23) (by decide) n23
          have n25 : D 25 = false := hClo.no 25 rfl (k := 24) (by decide) n24
          clear hClo hd
          have hcall := (show Calls _ _ _ _ _ from by have h := normalize_any ⟨id, cd, br, d, m, am⟩ A1 n c1 W.heap.size (Srt.srt L) w' (HRN.out.below hlow.b).reads HRN.out.len hlow.size (by omega); rw [Srt.srt_srt] at h; exact h)
          simp only [pv] at hcall
          have HC := hide hcall
          clear hcall
          simp only [upd, Act.put, List.setIfInBounds_toArray, List.set_cons_zero, List.set_cons_succ, e19, e20]
          go_wp2_with fail
          with_reducible refine HC.out.mono ?_
          rintro e w2 ⟨Aa, ca, rfl, hrr, hnc2, hB2⟩
          simp only [pv]
          go_wp2_with fail
          refine hK _ _ ⟨A2, c2, Aa, ca, ?_, ?_, ?_, ?_⟩
          · clear hK
            simp [upd, Act.put, also, *]
          · exact hlow.below hB2
          · exact fun h => (hr2 (by simpa [also] using h)).below hB2
          · exact fun _ => hrr.base_ hlow.size
        · intro D a w' K hClo hk0 hd hJ
          change D 22 = false at hk0
          obtain ⟨A2, c2, A3, c3, rfl, hlow, hr2, hr3⟩ := hJ
          intro hK
          have e19 : D 19 = true := hd 19 (by decide)
          have n23 : D 23 = false := hClo.no 23 rfl (k := 22) (by decide) hk0
          have n24 : D 24 = false := hClo.no 24 rfl (k := 23) (by decide) n23
          have n25 : D 25 = false := hClo.no 25 rfl (k := 24) (by decide) n24
          clear hClo hd
          have y0 := (hlow.b.cell (p := ⟨bn, 0, none⟩) hbn).trans z0
          have y1 := (hlow.b.cell (p := ⟨bn, 1, none⟩) hbn).trans z1
          have y2 := (hlow.b.cell (p := ⟨bn, 2, none⟩) hbn).trans z2
          have y3 := (hlow.b.cell (p := ⟨bn, 3, none⟩) hbn).trans z3
          have y4 := (hlow.b.cell (p := ⟨bn, 4, none⟩) hbn).trans z4
          have y5 := (hlow.b.cell (p := ⟨bn, 5, none⟩) hbn).trans z5
          have y6 := (hlow.b.cell (p := ⟨bn, 6, none⟩) hbn).trans z6
          simp only [upd, Act.put, List.setIfInBounds_toArray, List.set_cons_zero, List.set_cons_succ, e19]
          go_wp2_with fail
          refine hK _ _ ⟨A2, c2, A3, c3, ?_, ?_, ?_, ?_⟩
          · clear hK
            simp [upd, Act.put, also, *]
          · exact hlow
          · exact fun h => (hr2 (by simpa [also] using h))
          · exact fun h => (hr3 (by simpa [also] using h))
        · intro D a w' K hClo hk0 hd hJ
          change D 23 = false at hk0
          obtain ⟨A2, c2, A3, c3, rfl, hlow, hr2, hr3⟩ := hJ
          intro hK
          have e19 : D 19 = true := hd 19 (by decide)
          have e21 : D 21 = true := hd 21 (by decide)
          have e22 : D 22 = true := hd 22 (by decide)
          have n24 : D 24 = false := hClo.no 24 rfl (k := 23) (by decide) hk0
          have n25 : D 25 = false := hClo.no 25 rfl (k := 24) (by decide) n24
          clear hClo hd
          have hcall := same_prod ⟨id, cd, br, d, m, am⟩ A3 A1 n c3 c1 w'.heap.size (Srt.srt L) w' ((hr3 e21).recs (by omega)) ((HRN.out.below hlow.b).more hlow.size) (Nat.le_refl _)
          simp only [pv] at hcall
          have HC := hide hcall
          clear hcall
          simp only [upd, Act.put, List.setIfInBounds_toArray, List.set_cons_zero, List.set_cons_succ, e19, e21, e22]
          go_wp2_with fail
          with_reducible refine HC.out.mono ?_
          rintro e w2 ⟨rfl, hB2⟩
          go_wp2_with fail
          refine hK _ _ ⟨A2, c2, A3, c3, ?_, ?_, ?_, ?_⟩
          · clear hK
            simp [upd, Act.put, also, *]
          · exact hlow.below hB2
          · exact fun h => (hr2 (by simpa [also] using h)).below hB2
          · exact fun h => (hr3 (by simpa [also] using h)).below hB2
        · intro D a w' K hClo hk0 hd hJ
          change D 24 = false at hk0
          obtain ⟨A2, c2, A3, c3, rfl, hlow, hr2, hr3⟩ := hJ
          intro hK
          have e19 : D 19 = true := hd 19 (by decide)
          have e23 : D 23 = true := hd 23 (by decide)
          have n25 : D 25 = false := hClo.no 25 rfl (k := 24) (by decide) hk0
          clear hClo hd
          simp only [upd, Act.put, List.setIfInBounds_toArray, List.set_cons_zero, List.set_cons_succ, e19, e23]
          go_wp2_with fail
          refine hK _ _ ⟨A2, c2, A3, c3, ?_, ?_, ?_, ?_⟩
          · clear hK
            simp [upd, Act.put, also, *]
          · exact hlow
          · exact fun h => (hr2 (by simpa [also] using h))
          · exact fun h => (hr3 (by simpa [also] using h))
        · intro D a w' K hClo hk0 hd hJ
          change D 25 = false at hk0
          obtain ⟨A2, c2, A3, c3, rfl, hlow, hr2, hr3⟩ := hJ
          intro hK
          have e19 : D 19 = true := hd 19 (by decide)
          have e24 : D 24 = true := hd 24 (by decide)
          clear hClo hd
          simp only [upd, Act.put, List.setIfInBounds_toArray, List.set_cons_zero, List.set_cons_succ, e19, e24]
          go_wp2_with fail
          refine hK _ _ ⟨A2, c2, A3, c3, ?_, ?_, ?_, ?_⟩
          · clear hK
            simp [upd, Act.put, also, *]
          · exact hlow
          · exact fun h => (hr2 (by simpa [also] using h))
          · exact fun h => (hr3 (by simpa [also] using h))
      · intro D a' w5 hall hJ
        obtain ⟨A2, c2, A3, c3, rfl, hlow, hr2, hr3⟩ := hJ
        have e0 : D 0 = true := hall 0 (by decide)
        have e1 : D 1 = true := hall 1 (by decide)
        have e2 : D 2 = true := hall 2 (by decide)
        have e3 : D 3 = true := hall 3 (by decide)
        have e4 : D 4 = true := hall 4 (by decide)
        have e5 : D 5 = true := hall 5 (by decide)
        have e6 : D 6 = true := hall 6 (by decide)
        have e7 : D 7 = true := hall 7 (by decide)
        have e8 : D 8 = true := hall 8 (by decide)
        have e9 : D 9 = true := hall 9 (by decide)
        have e10 : D 10 = true := hall 10 (by decide)
        have e11 : D 11 = true := hall 11 (by decide)
        have e12 : D 12 = true := hall 12 (by decide)
        have e13 : D 13 = true := hall 13 (by decide)
        have e14 : D 14 = true := hall 14 (by decide)
        have e15 : D 15 = true := hall 15 (by decide)
        have e16 : D 16 = true := hall 16 (by decide)
        have e17 : D 17 = true := hall 17 (by decide)
        have e18 : D 18 = true := hall 18 (by decide)
        have e19 : D 19 = true := hall 19 (by decide)
        have e20 : D 20 = true := hall 20 (by decide)
        have e21 : D 21 = true := hall 21 (by decide)
        have e22 : D 22 = true := hall 22 (by decide)
        have e23 : D 23 = true := hall 23 (by decide)
        have e24 : D 24 = true := hall 24 (by decide)
        have e25 : D 25 = true := hall 25 (by decide)
        clear hall
        replace hr2 := hr2 e2
        replace hr3 := hr3 e21
        simp only [upd, Act.put, List.setIfInBounds_toArray, List.set_cons_zero, List.set_cons_succ, sel_true, e0, e1, e2, e3, e4, e5, e6, e7, e8, e9, e10, e11, e12, e13, e14, e15, e16, e17, e18, e19, e20, e21, e22, e23, e24, e25]
        clear e0 e1 e2 e3 e4 e5 e6 e7 e8 e9 e10 e11 e12 e13 e14 e15 e16 e17 e18 e19 e20 e21 e22 e23 e24 e25
        have hlo := hlow.b
        have Hlo := hide hlo
        clear hlow hlo hr2 hr3
        go_wp2_with fail
        go_roundw
        case rel => exact ⟨k + 1, by omega, by go_num, (show Below _ _ _ from HBW.out.trans (Hlo.out.mono HBW.out.size))⟩
        case measure => simp [intOf]; omega
    · obtain rfl : k = 2 := by omega
      go_wp2_with (go_at_call 18; with_reducible refine (awake_any wr).mono ?_; rintro e w10 ⟨rfl, hB11⟩)
      go_ret
      exact ⟨rfl, HM.out.trans ((Hb.out.trans (hB11.mono hzr)).mono HM.out.size)⟩
end Go.Proofs.YtjgbadopladmdaaDoor
