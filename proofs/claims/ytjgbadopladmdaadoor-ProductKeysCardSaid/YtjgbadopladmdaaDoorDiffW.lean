/- The walk of product.Differences: the names of the attributes in which two products differ, sorted. -/
import Derived.Test.YtjgbadopladmdaaDoorStrsW
import Derived.Test.YtjgbadopladmdaaDoorKeyV
import Derived.Deep.CutBlock
namespace Go.Proofs.YtjgbadopladmdaaDoor
open Go.RowKit Go.Sort
open Rel (Lk)

/-- a set as a map's block -/
structure MapH (w : World) (b n : Nat) (L : List Lk) : Prop where
  m : AMap w b n (isIn L)
theorem MapH.below {w w' : World} {b n : Nat} {L : List Lk} (h : MapH w b n L) (hb : Below w.heap.size w w') : MapH w' b n L := ⟨h.m.below hb h.m.lt⟩

namespace Dif
def sel (L1 L2 : List Lk) (r : Lk) : Bool := isIn L1 r != isIn L2 r
def acc (L1 L2 : List Lk) : Nat → List Lk
  | 0 => []
  | 1 => L1.filter (sel L1 L2)
  | _ => L1.filter (sel L1 L2) ++ L2.filter (sel L1 L2)
def nv (r : Lk) : Value := .string r.1
theorem acc_end (L1 L2 : List Lk) : acc L1 L2 2 = odd L1 L2 := odd_prog L1 L2
theorem filt_step {f : Lk → Bool} {L : List Lk} {j : Nat} {r : Lk} (h : L[j]? = some r) : (L.take (j + 1)).filter f = (L.take j).filter f ++ (if f r = true then [r] else []) := by
  rw [List.take_add_one, h, Option.toList_some, List.filter_append]
  congr 1
  by_cases hf : f r = true <;> simp [List.filter, hf]
/-- the names gathered so far, in a row of the call's own -/
structure OwnJ (w0 wr : World) (v : Value) (N : Nat) (P L : List Lk) (f : Lk → Bool) (j : Nat) : Prop where
  o : wr.ownsRow w0.heap.size 9 1 v N ((P ++ (L.take j).filter f).map nv)
  b : Below w0.heap.size w0 wr
theorem nv_enc (L : List Lk) : L.map nv = (L.map nm).map encStr := by
  rw [List.map_map]
  rfl
end Dif

set_option maxHeartbeats 8000000 in
set_option maxRecDepth 100000 in
theorem differences_any (p q : Pr) (A1 A2 : Option Addr) (n1 c1 n2 c2 B : Nat) (L1 L2 : List Lk) (wz : World) (h1 : Recs lc 2 wz B A1 n1 L1) (h2 : Recs lc 2 wz B A2 n2 L2) (hB : B ≤ wz.heap.size) (hn1 : n1 ≤ 20) (hn2 : n2 ≤ 20)
    (hs1 : ∀ r ∈ L1, r.1.size ≤ 1000 ∧ r.2.size ≤ 1000) (hs2 : ∀ r ∈ L2, r.1.size ≤ 1000 ∧ r.2.size ≤ 1000) :
    Calls Tryd.prog 38 #[.agg (pv p (.slice A1 n1 c1)), .agg (pv q (.slice A2 n2 c2))] wz (Strs wz wz.heap.size (Dif.dif L1 L2)) := by
  obtain ⟨i0, hi, hz0, hz1, hz2⟩ := info_parts info9
  obtain ⟨id, cd, br, d, m, am⟩ := p
  obtain ⟨id2, cd2, br2, d2, m2, am2⟩ := q
  simp only [pv]
  have hb1 := ((Below.refl wz.heap.size wz).alloc (Nat.le_refl _) (.cells #[.string id, .string cd, .string br, .int .i64 d, .int .i64 m, .int .i64 am, .slice A1 n1 c1] 50)).alloc (by simp) (.cells #[.string id2, .string cd2, .string br2, .int .i64 d2, .int .i64 m2, .int .i64 am2, .slice A2 n2 c2] 50)
  have hx := (Blk.new wz 50 #[.string id, .string cd, .string br, .int .i64 d, .int .i64 m, .int .i64 am, .slice A1 n1 c1]).alloc (.cells #[.string id2, .string cd2, .string br2, .int .i64 d2, .int .i64 m2, .int .i64 am2, .slice A2 n2 c2] 50)
  have hy := Blk.new (wz.alloc (.cells #[.string id, .string cd, .string br, .int .i64 d, .int .i64 m, .int .i64 am, .slice A1 n1 c1] 50)) 50 #[.string id2, .string cd2, .string br2, .int .i64 d2, .int .i64 m2, .int .i64 am2, .slice A2 n2 c2]
  rw [World.size_alloc] at hy
  have hzx := hx.lt
  have hzy := hy.lt
  have x6 := hx.cell 6
  have x6b := hy.cell 6
  simp only [List.getElem?_toArray, List.getElem?_cons_zero, List.getElem?_cons_succ] at x6 x6b
  have k1 := h1.below (hb1.mono hB)
  have k2 := h2.below (hb1.mono hB)
  have HS1 := hide hs1
  have HS2 := hide hs2
  clear hx hy h1 h2 hs1 hs2
  go_enter Tryd.func38, Tryd.ntmps38
  go_upto_region 2 with (fail)
  generalize (wz.alloc (.cells #[.string id, .string cd, .string br, .int .i64 d, .int .i64 m, .int .i64 am, .slice A1 n1 c1] 50)).alloc (.cells #[.string id2, .string cd2, .string br2, .int .i64 d2, .int .i64 m2, .int .i64 am2, .slice A2 n2 c2] 50) = W at hb1 hzx hzy x6 x6b k1 k2 ⊢
  have hzw := hb1.size
  have hBW : B ≤ W.heap.size := by omega
  generalize hqe : wz.heap.size = bx at hzx hzy x6 x6b ⊢
  have HQE := hide hqe
  have HB1 := hide hb1
  clear hqe hb1
  refine wp_region_each (fun a0 D a w => ∃ (b1 : Nat) (b2 : Nat), a = upd a0 [(12, sel (D 0) (.pointer (some ⟨bx, 6, none⟩)) undef), (13, sel (D 1) (.slice A1 n1 c1) undef), (14, sel (D 2) (.map (some b1)) undef), (15, sel (D 3) (.pointer (some ⟨bx + 1, 6, none⟩)) undef), (16, sel (D 4) (.slice A2 n2 c2) undef), (17, sel (D 5) (.map (some b2)) undef), (6, sel (D 6) (.map (some b1)) undef), (7, sel (D 7) (.map (some b2)) undef)] ∧ (Low W w) ∧ (D 2 = true → MapH w b1 n1 L1) ∧ (D 5 = true → MapH w b2 n2 L2)) (by kernel_rfl) (by kernel_rfl) ?_ ?_ ?_
  · refine ⟨0, 0, ?_, Low.mk_ _, fun h => Bool.noConfusion h, fun h => Bool.noConfusion h⟩
    simp [upd, Act.put]
  · refine ⟨?_, ?_, ?_, ?_, ?_, ?_, ?_, ?_, trivial⟩
    · intro D a w' K hClo hk0 hd hJ
      change D 0 = false at hk0
      obtain ⟨b1, b2, rfl, hlow, hma, hmb⟩ := hJ
      intro hK
      have n1 : D 1 = false := hClo.no 1 rfl (k := 0) (by decide) hk0
      have n6 : D 6 = false := hClo.no 6 rfl (k := 0) (by decide) hk0
      have n7 : D 7 = false := hClo.no 7 rfl (k := 0) (by decide) hk0
      have n2 : D 2 = false := hClo.no 2 rfl (k := 1) (by decide) n1
      have n5 : D 5 = false := hClo.no 5 rfl (k := 2) (by decide) n2
      clear hClo hd
      simp only [upd, Act.put, List.setIfInBounds_toArray, List.set_cons_zero, List.set_cons_succ]
      go_wp2_with fail
      refine hK _ _ ⟨b1, b2, ?_, ?_, ?_, ?_⟩
      · clear hK
        simp [upd, Act.put, also, *]
      · exact hlow
      · exact fun h => by simp [also, *] at h
      · exact fun h => by simp [also, *] at h
    · intro D a w' K hClo hk0 hd hJ
      change D 1 = false at hk0
      obtain ⟨b1, b2, rfl, hlow, hma, hmb⟩ := hJ
      intro hK
      have e0 : D 0 = true := hd 0 (by decide)
      have n2 : D 2 = false := hClo.no 2 rfl (k := 1) (by decide) hk0
      have n6 : D 6 = false := hClo.no 6 rfl (k := 1) (by decide) hk0
      have n7 : D 7 = false := hClo.no 7 rfl (k := 1) (by decide) hk0
      have n5 : D 5 = false := hClo.no 5 rfl (k := 2) (by decide) n2
      clear hClo hd
      have y6 := (hlow.b.cell (p := ⟨bx, 6, none⟩) hzx).trans x6
      simp only [upd, Act.put, List.setIfInBounds_toArray, List.set_cons_zero, List.set_cons_succ, e0]
      go_wp2_with fail
      refine hK _ _ ⟨b1, b2, ?_, ?_, ?_, ?_⟩
      · clear hK
        simp [upd, Act.put, also, *]
      · exact hlow
      · exact fun h => by simp [also, *] at h
      · exact fun h => by simp [also, *] at h
    · intro D a w' K hClo hk0 hd hJ
      change D 2 = false at hk0
      obtain ⟨b1, b2, rfl, hlow, hma, hmb⟩ := hJ
      intro hK
      have e1 : D 1 = true := hd 1 (by decide)
      have n5 : D 5 = false := hClo.no 5 rfl (k := 2) (by decide) hk0
      have n6 : D 6 = false := hClo.no 6 rfl (k := 2) (by decide) hk0
      have n7 : D 7 = false := hClo.no 7 rfl (k := 2) (by decide) hk0
      clear hClo hd
      have hcall := set_any A1 n1 c1 B L1 w' (k1.below (hlow.b.mono hBW)) (by have := hlow.size; omega) (by omega) HS1.out
      have HC := hide hcall
      clear hcall
      simp only [upd, Act.put, List.setIfInBounds_toArray, List.set_cons_zero, List.set_cons_succ, e1]
      go_wp2_with fail
      with_reducible refine HC.out.mono ?_
      rintro e w2 ⟨g, rfl, _, hm2, hB2⟩
      go_wp2_with fail
      refine hK _ _ ⟨g, b2, ?_, ?_, ?_, ?_⟩
      · clear hK
        simp [upd, Act.put, also, *]
      · exact hlow.below hB2
      · exact fun _ => ⟨hm2⟩
      · exact fun h => by simp [also, *] at h
    · intro D a w' K hClo hk0 hd hJ
      change D 3 = false at hk0
      obtain ⟨b1, b2, rfl, hlow, hma, hmb⟩ := hJ
      intro hK
      have n4 : D 4 = false := hClo.no 4 rfl (k := 3) (by decide) hk0
      have n7 : D 7 = false := hClo.no 7 rfl (k := 3) (by decide) hk0
      have n5 : D 5 = false := hClo.no 5 rfl (k := 4) (by decide) n4
      have n6 : D 6 = false := hClo.no 6 rfl (k := 5) (by decide) n5
      clear hClo hd
      simp only [upd, Act.put, List.setIfInBounds_toArray, List.set_cons_zero, List.set_cons_succ]
      go_wp2_with fail
      refine hK _ _ ⟨b1, b2, ?_, ?_, ?_, ?_⟩
      · clear hK
        simp [upd, Act.put, also, *]
      · exact hlow
      · exact fun h => (hma (by simpa [also] using h))
      · exact fun h => by simp [also, *] at h
    · intro D a w' K hClo hk0 hd hJ
      change D 4 = false at hk0
      obtain ⟨b1, b2, rfl, hlow, hma, hmb⟩ := hJ
      intro hK
      have e3 : D 3 = true := hd 3 (by decide)
      have n5 : D 5 = false := hClo.no 5 rfl (k := 4) (by decide) hk0
      have n7 : D 7 = false := hClo.no 7 rfl (k := 4) (by decide) hk0
      have n6 : D 6 = false := hClo.no 6 rfl (k := 5) (by decide) n5
      clear hClo hd
      have y6 := (hlow.b.cell (p := ⟨bx + 1, 6, none⟩) hzy).trans x6b
      simp only [upd, Act.put, List.setIfInBounds_toArray, List.set_cons_zero, List.set_cons_succ, e3]
      go_wp2_with fail
      refine hK _ _ ⟨b1, b2, ?_, ?_, ?_, ?_⟩
      · clear hK
        simp [upd, Act.put, also, *]
      · exact hlow
      · exact fun h => (hma (by simpa [also] using h))
      · exact fun h => by simp [also, *] at h
    · intro D a w' K hClo hk0 hd hJ
      change D 5 = false at hk0
      obtain ⟨b1, b2, rfl, hlow, hma, hmb⟩ := hJ
      intro hK
      have e2 : D 2 = true := hd 2 (by decide)
      have e4 : D 4 = true := hd 4 (by decide)
      have n6 : D 6 = false := hClo.no 6 rfl (k := 5) (by decide) hk0
      have n7 : D 7 = false := hClo.no 7 rfl (k := 5) (by decide) hk0
      clear hClo hd
      have hcall := set_any A2 n2 c2 B L2 w' (k2.below (hlow.b.mono hBW)) (by have := hlow.size; omega) (by omega) HS2.out
      have HC := hide hcall
      clear hcall
      simp only [upd, Act.put, List.setIfInBounds_toArray, List.set_cons_zero, List.set_cons_succ, e2, e4]
      go_wp2_with fail
      with_reducible refine HC.out.mono ?_
      rintro e w2 ⟨g, rfl, _, hm2, hB2⟩
      go_wp2_with fail
      refine hK _ _ ⟨b1, g, ?_, ?_, ?_, ?_⟩
      · clear hK
        simp [upd, Act.put, also, *]
      · exact hlow.below hB2
      · exact fun h => (hma (by simpa [also] using h)).below hB2
      · exact fun _ => ⟨hm2⟩
    · intro D a w' K hClo hk0 hd hJ
      change D 6 = false at hk0
      obtain ⟨b1, b2, rfl, hlow, hma, hmb⟩ := hJ
      intro hK
      have e0 : D 0 = true := hd 0 (by decide)
      have e1 : D 1 = true := hd 1 (by decide)
      have e2 : D 2 = true := hd 2 (by decide)
      have e5 : D 5 = true := hd 5 (by decide)
      have n7 : D 7 = false := hClo.no 7 rfl (k := 6) (by decide) hk0
      clear hClo hd
      simp only [upd, Act.put, List.setIfInBounds_toArray, List.set_cons_zero, List.set_cons_succ, e0, e1, e2, e5]
      go_wp2_with fail
      refine hK _ _ ⟨b1, b2, ?_, ?_, ?_, ?_⟩
      · clear hK
        simp [upd, Act.put, also, *]
      · exact hlow
      · exact fun h => (hma (by simpa [also] using h))
      · exact fun h => (hmb (by simpa [also] using h))
    · intro D a w' K hClo hk0 hd hJ
      change D 7 = false at hk0
      obtain ⟨b1, b2, rfl, hlow, hma, hmb⟩ := hJ
      intro hK
      have e0 : D 0 = true := hd 0 (by decide)
      have e1 : D 1 = true := hd 1 (by decide)
      have e2 : D 2 = true := hd 2 (by decide)
      have e3 : D 3 = true := hd 3 (by decide)
      have e4 : D 4 = true := hd 4 (by decide)
      have e5 : D 5 = true := hd 5 (by decide)
      have e6 : D 6 = true := hd 6 (by decide)
      clear hClo hd
      simp only [upd, Act.put, List.setIfInBounds_toArray, List.set_cons_zero, List.set_cons_succ, e0, e1, e2, e3, e4, e5, e6]
      go_wp2_with fail
      refine hK _ _ ⟨b1, b2, ?_, ?_, ?_, ?_⟩
      · clear hK
        simp [upd, Act.put, also, *]
      · exact hlow
      · exact fun h => (hma (by simpa [also] using h))
      · exact fun h => (hmb (by simpa [also] using h))
  · intro D a' w3 hall hJ
    obtain ⟨b1, b2, rfl, hlow, hma, hmb⟩ := hJ
    have e0 : D 0 = true := hall 0 (by decide)
    have e1 : D 1 = true := hall 1 (by decide)
    have e2 : D 2 = true := hall 2 (by decide)
    have e3 : D 3 = true := hall 3 (by decide)
    have e4 : D 4 = true := hall 4 (by decide)
    have e5 : D 5 = true := hall 5 (by decide)
    have e6 : D 6 = true := hall 6 (by decide)
    have e7 : D 7 = true := hall 7 (by decide)
    clear hall
    replace hma := hma e2
    replace hmb := hmb e5
    simp only [upd, Act.put, List.setIfInBounds_toArray, List.set_cons_zero, List.set_cons_succ, sel_true, e0, e1, e2, e3, e4, e5, e6, e7]
    clear e0 e1 e2 e3 e4 e5 e6 e7
    have x7 := (hlow.b.cell (p := ⟨bx, 6, none⟩) hzx).trans x6
    have y7 := (hlow.b.cell (p := ⟨bx + 1, 6, none⟩) hzy).trans x6b
    have hk1 := (k1.below (hlow.b.mono hBW)).more (Nat.le_trans hBW hlow.size)
    have hk2 := (k2.below (hlow.b.mono hBW)).more (Nat.le_trans hBW hlow.size)
    have hb3 := HB1.out.trans (hlow.b.mono hzw)
    have hz3 := hlow.size
    clear x6 x6b k1 k2
    go_upto_block 0 with (fail)
    have hM := hb3.alloc hb3.size (.cells #[.slice A1 n1 c1, .slice A2 n2 c2] 48)
    have hbl := Blk.new w3 48 #[.slice A1 n1 c1, .slice A2 n2 c2]
    have hma1 := hma.m.alloc (.cells #[.slice A1 n1 c1, .slice A2 n2 c2] 48)
    have hmb1 := hmb.m.alloc (.cells #[.slice A1 n1 c1, .slice A2 n2 c2] 48)
    have hl1 := hma1.lt
    have hl2 := hmb1.lt
    have hr1 := (hk1.below ((Below.refl w3.heap.size w3).alloc (Nat.le_refl _) (.cells #[.slice A1 n1 c1, .slice A2 n2 c2] 48))).more (Nat.le_of_lt hbl.lt)
    have hr2 := (hk2.below ((Below.refl w3.heap.size w3).alloc (Nat.le_refl _) (.cells #[.slice A1 n1 c1, .slice A2 n2 c2] 48))).more (Nat.le_of_lt hbl.lt)
    have hlb := hbl.lt
    generalize w3.alloc (.cells #[.slice A1 n1 c1, .slice A2 n2 c2] 48) = wM at hM hbl hma1 hmb1 hl1 hl2 hr1 hr2 hlb ⊢
    generalize w3.heap.size = lb at hbl hlb ⊢
    have hlist : ∀ k, k < 2 → ∃ A n c L, wM.cell? ⟨lb, k, none⟩ = some (.slice A n c) ∧ Recs lc 2 wM wM.heap.size A n L ∧ n ≤ 20 ∧ (∀ r ∈ L, r.1.size ≤ 1000 ∧ r.2.size ≤ 1000) ∧ Dif.acc L1 L2 (k + 1) = Dif.acc L1 L2 k ++ L.filter (Dif.sel L1 L2) := by
      intro k hk
      obtain rfl | rfl : k = 0 ∨ k = 1 := by omega
      · exact ⟨A1, n1, c1, L1, hbl.cell 0, hr1, hn1, HS1.out, rfl⟩
      · exact ⟨A2, n2, c2, L2, hbl.cell 1, hr2, hn2, HS2.out, rfl⟩
    have HLI := hide hlist
    have HMA := hide hma1
    have HMB := hide hmb1
    have HM := hide hM
    clear hlist hma1 hmb1 hM hbl hr1 hr2 hma hmb hk1 hk2 hb3 hlow x7 y7 hz3 hzx hzy
    have HZM := hide HM.out.size
    go_wp2
    go_loopw [5, 24] (fun v i wr => ∃ k : Nat, k ≤ 2 ∧ i = .int .i64 k ∧ ∃ N : Nat, N ≤ 20 * k ∧ Hid (wr.ownsRow wM.heap.size 9 1 v N ((Dif.acc L1 L2 k).map Dif.nv)) ∧ Hid (Below wM.heap.size wM wr)) (fun _ i _ => 2 - (intOf i).toNat)
    case atStart => exact ⟨0, by omega, rfl, 0, Nat.zero_le _, (show World.ownsRow _ _ _ _ _ _ _ from ownsRow_nil' _ _ _ _), (show Below _ _ _ from Below.refl _ _)⟩
    case round =>
      obtain ⟨k, hk, rfl, N0, hN0, Ho, Hb⟩ := hrel
      by_cases hlt : k < 2
      · obtain ⟨A, n, c, L, hcell, hrec, hn20, hss, hacc⟩ := HLI.out k hlt
        have hce := (Hb.out.cell (p := ⟨lb, k, none⟩) hlb).trans hcell
        have hLl := hrec.len
        have HR := hide hrec
        have HSS := hide hss
        have HAC := hide hacc
        have HLl := hide hLl
        clear hcell hrec hss hacc hLl
        go_wp2
        clear hce
        go_loopw [5, 30] (fun v i wr => ∃ j : Nat, j ≤ n ∧ i = .int .i64 j ∧ ∃ N : Nat, N ≤ 20 * k + j ∧ Dif.OwnJ wM wr v N (Dif.acc L1 L2 k) L (Dif.sel L1 L2) j) (fun _ i _ => n - (intOf i).toNat)
        case atStart => exact ⟨0, Nat.zero_le _, rfl, N0, by omega, by have := Ho.out; simpa using this, Hb.out⟩
        case round =>
          obtain ⟨j, hj, rfl, N, hN, hO2⟩ := hrel
          have Ho2 := hide hO2.o
          have Hb2 := hide hO2.b
          clear hO2
          have hzr := Hb2.out.size
          by_cases hlt2 : j < n
          · obtain ⟨ad, x, rfl, hab, hX, e0, ej⟩ := (HR.out.below Hb2.out).at_ lc_len (by omega) hlt2
            have e1 := ej 1 (by omega) (by omega)
            have hsx := HSS.out x (List.mem_of_getElem? hX)
            obtain ⟨x1, x2⟩ := x
            simp only [lc, List.getElem?_cons_zero, List.getElem?_cons_succ] at e0 e1 hsx
            have g1 : (x1, x2).1.size ≤ maxLen := Nat.le_trans hsx.1 (by decide)
            have g2 : (x1, x2).2.size ≤ maxLen := Nat.le_trans hsx.2 (by decide)
            have hst := Dif.filt_step (f := Dif.sel L1 L2) hX
            obtain ⟨cb, hcb⟩ : ∃ cb, cb = (isIn L1 (x1, x2) != isIn L2 (x1, x2)) := ⟨_, rfl⟩
            rw [show Dif.sel L1 L2 (x1, x2) = cb from hcb.symm] at hst
            have HST := hide hst
            clear hst ej hX hsx
            go_upto_region 9 with (fail)
            have hoA := Ho2.out.alloc (.cells #[.string x1, .string x2] 57)
            have hbA := Hb2.out.alloc hzr (.cells #[.string x1, .string x2] 57)
            have hkA := Blk.new wr 57 #[.string x1, .string x2]
            generalize wr.alloc (.cells #[.string x1, .string x2] 57) = wA at hoA hbA hkA ⊢
            have hha := hkA.lt
            generalize wr.heap.size = ha at hkA hha ⊢
            have a0 := hkA.cell 0
            have a1 := hkA.cell 1
            simp only [List.getElem?_toArray, List.getElem?_cons_zero, List.getElem?_cons_succ] at a0 a1
            have hmA := HMA.out.below hbA hl1
            have hmB := HMB.out.below hbA hl2
            have hl3 := hmA.lt
            have hl4 := hmB.lt
            have HMA2 := hide hmA
            have HMB2 := hide hmB
            have HOA := hide hoA
            have HBA := hide hbA
            clear e0 e1 hkA hoA hbA hmA hmB
            refine wp_region_each (fun a0 D a w => a = upd a0 [(34, sel (D 0) (.map (some b1)) u34), (35, sel (D 1) (.agg #[.string x1, .string x2]) u35), (36, sel (D 2) (.bool (isIn L1 (x1, x2))) u36), (37, sel (D 3) (.map (some b2)) u37), (38, sel (D 4) (.agg #[.string x1, .string x2]) u38), (39, sel (D 5) (.bool (isIn L2 (x1, x2))) u39), (40, sel (D 6) (.bool cb) u40)] ∧ (Low wA w)) (by kernel_rfl) (by kernel_rfl) ?_ ?_ ?_
            · refine ⟨?_, Low.mk_ _⟩
              simp [upd, Act.put]
            · refine ⟨?_, ?_, ?_, ?_, ?_, ?_, ?_, trivial⟩
              · intro D a w' K hClo hk0 hd hJ
                change D 0 = false at hk0
                obtain ⟨rfl, hlow⟩ := hJ
                intro hK
                have n2 : D 2 = false := hClo.no 2 rfl (k := 0) (by decide) hk0
                have n6 : D 6 = false := hClo.no 6 rfl (k := 2) (by decide) n2
                clear hClo hd
                simp only [upd, Act.put, List.setIfInBounds_toArray, List.set_cons_zero, List.set_cons_succ]
                go_wp2_with fail
                refine hK _ _ ⟨?_, ?_⟩
                · clear hK
                  simp [upd, Act.put, also, *]
                · exact hlow
              · intro D a w' K hClo hk0 hd hJ
                change D 1 = false at hk0
                obtain ⟨rfl, hlow⟩ := hJ
                intro hK
                have n2 : D 2 = false := hClo.no 2 rfl (k := 1) (by decide) hk0
                have n6 : D 6 = false := hClo.no 6 rfl (k := 2) (by decide) n2
                clear hClo hd
                have y0 := (hlow.b.cell (p := ⟨ha, 0, none⟩) hha).trans a0
                have y1 := (hlow.b.cell (p := ⟨ha, 1, none⟩) hha).trans a1
                simp only [upd, Act.put, List.setIfInBounds_toArray, List.set_cons_zero, List.set_cons_succ]
                go_wp2_with fail
                refine hK _ _ ⟨?_, ?_⟩
                · clear hK
                  simp [upd, Act.put, also, *]
                · exact hlow
              · intro D a w' K hClo hk0 hd hJ
                change D 2 = false at hk0
                obtain ⟨rfl, hlow⟩ := hJ
                intro hK
                have e0 : D 0 = true := hd 0 (by decide)
                have e1 : D 1 = true := hd 1 (by decide)
                have n6 : D 6 = false := hClo.no 6 rfl (k := 2) (by decide) hk0
                clear hClo hd
                have hlk := (HMA2.out.below hlow.b hl3).look (x1, x2) g1 g2
                simp only at hlk
                simp only [upd, Act.put, List.setIfInBounds_toArray, List.set_cons_zero, List.set_cons_succ, e0, e1]
                go_wp2_with fail
                refine hK _ _ ⟨?_, ?_⟩
                · clear hK
                  simp [upd, Act.put, also, *]
                · exact hlow
              · intro D a w' K hClo hk0 hd hJ
                change D 3 = false at hk0
                obtain ⟨rfl, hlow⟩ := hJ
                intro hK
                have n5 : D 5 = false := hClo.no 5 rfl (k := 3) (by decide) hk0
                have n6 : D 6 = false := hClo.no 6 rfl (k := 5) (by decide) n5
                clear hClo hd
                simp only [upd, Act.put, List.setIfInBounds_toArray, List.set_cons_zero, List.set_cons_succ]
                go_wp2_with fail
                refine hK _ _ ⟨?_, ?_⟩
                · clear hK
                  simp [upd, Act.put, also, *]
                · exact hlow
              · intro D a w' K hClo hk0 hd hJ
                change D 4 = false at hk0
                obtain ⟨rfl, hlow⟩ := hJ
                intro hK
                have n5 : D 5 = false := hClo.no 5 rfl (k := 4) (by decide) hk0
                have n6 : D 6 = false := hClo.no 6 rfl (k := 5) (by decide) n5
                clear hClo hd
                have y0 := (hlow.b.cell (p := ⟨ha, 0, none⟩) hha).trans a0
                have y1 := (hlow.b.cell (p := ⟨ha, 1, none⟩) hha).trans a1
                simp only [upd, Act.put, List.setIfInBounds_toArray, List.set_cons_zero, List.set_cons_succ]
                go_wp2_with fail
                refine hK _ _ ⟨?_, ?_⟩
                · clear hK
                  simp [upd, Act.put, also, *]
                · exact hlow
              · intro D a w' K hClo hk0 hd hJ
                change D 5 = false at hk0
                obtain ⟨rfl, hlow⟩ := hJ
                intro hK
                have e3 : D 3 = true := hd 3 (by decide)
                have e4 : D 4 = true := hd 4 (by decide)
                have n6 : D 6 = false := hClo.no 6 rfl (k := 5) (by decide) hk0
                clear hClo hd
                have hlk := (HMB2.out.below hlow.b hl4).look (x1, x2) g1 g2
                simp only at hlk
                simp only [upd, Act.put, List.setIfInBounds_toArray, List.set_cons_zero, List.set_cons_succ, e3, e4]
                go_wp2_with fail
                refine hK _ _ ⟨?_, ?_⟩
                · clear hK
                  simp [upd, Act.put, also, *]
                · exact hlow
              · intro D a w' K hClo hk0 hd hJ
                change D 6 = false at hk0
                obtain ⟨rfl, hlow⟩ := hJ
                intro hK
                have e2 : D 2 = true := hd 2 (by decide)
                have e5 : D 5 = true := hd 5 (by decide)
                clear hClo hd
                simp only [upd, Act.put, List.setIfInBounds_toArray, List.set_cons_zero, List.set_cons_succ, e2, e5]
                go_wp2_with fail
                refine hK _ _ ⟨?_, ?_⟩
                · clear hK
                  simp [upd, Act.put, also, *]
                  cases isIn L1 (x1, x2) <;> cases isIn L2 (x1, x2) <;> rfl
                · exact hlow
            · intro D a' w5 hall hJ
              obtain ⟨rfl, hlow⟩ := hJ
              have e0 : D 0 = true := hall 0 (by decide)
              have e1 : D 1 = true := hall 1 (by decide)
              have e2 : D 2 = true := hall 2 (by decide)
              have e3 : D 3 = true := hall 3 (by decide)
              have e4 : D 4 = true := hall 4 (by decide)
              have e5 : D 5 = true := hall 5 (by decide)
              have e6 : D 6 = true := hall 6 (by decide)
              clear hall
              simp only [upd, Act.put, List.setIfInBounds_toArray, List.set_cons_zero, List.set_cons_succ, sel_true, e0, e1, e2, e3, e4, e5, e6]
              clear e0 e1 e2 e3 e4 e5 e6
              have z0 := (hlow.b.cell (p := ⟨ha, 0, none⟩) hha).trans a0
              have ho5 := own_below HOA.out hlow.b (own_block_lt HOA.out)
              have hb5 := HBA.out.trans (hlow.b.mono HBA.out.size)
              have hz5 := hb5.size
              have HO5 := hide ho5
              have HB5 := hide hb5
              clear hlow ho5 hb5
              cases cb with
              | false =>
                have hst := HST.out
                rw [if_neg (by decide), List.append_nil] at hst
                have HF := hide hst
                clear hst hcb HST
                go_wp2_with fail
                go_roundw
                case rel => exact ⟨j + 1, by omega, by go_num, N, by omega, by rw [HF.out]; exact HO5.out, HB5.out⟩
                case measure => simp [intOf]; omega
              | true =>
                have hst := HST.out
                rw [if_pos rfl] at hst
                have HF := hide hst
                clear hst hcb HST
                go_wp2_with (at_builtin
                             refine wpList_append_elem' w5 w5.heap.size rfl rfl _ _ 62 rfl wM.heap.size 9 i0 _ 1 16 Tryd.underlying62 hi hz0 hz1 hz2 rfl (by omega) (by omega) _ N _ rfl HO5.out #[.string x1] rfl rfl rfl (by simp [Value.oneCell']) (by omega) hz5 ?_
                             intro v6 w6 hown6 hg6 _
                             have hb6 := below_own HB5.out HO5.out hg6 (Nat.le_refl _) hz5
                             have HO6 := hide hown6
                             have HB6 := hide hb6
                             clear hown6 hb6 hg6)
                refine ⟨⟨_, _, _, ?rel, rfl, rfl, rfl⟩, ?measure⟩
                case rel => exact ⟨j + 1, by omega, by go_num, N + 1, by omega, by
                  have := HO6.out
                  rw [HF.out, ← List.append_assoc, List.map_append]
                  exact this, HB6.out⟩
                case measure => simp [intOf]; omega
          · obtain rfl : j = n := by omega
            have ho := Ho2.out
            rw [List.take_of_length_le (by have := HLl.out; omega), ← HAC.out] at ho
            have HO3 := hide ho
            clear ho
            go_wp2
            go_roundw
            case rel => exact ⟨k + 1, by omega, by go_num, N, by omega, (show World.ownsRow _ _ _ _ _ _ _ from HO3.out), (show Below _ _ _ from Hb2.out)⟩
            case measure => simp [intOf]; omega
      · obtain rfl : k = 2 := by omega
        have ho := Ho.out
        have hzr := Hb.out.size
        rw [Dif.nv_enc] at ho
        obtain ⟨A5, c5, rfl, hnc5, _⟩ := own_form ho
        have hss := sort_strs A5 N0 c5 wM.heap.size _ wr ho (by have := ho.1; simpa using this) (by omega) hzr
        have HSS := hide hss
        have hl5 : ((Dif.acc L1 L2 2).map Dif.nm).length = N0 := by have := ho.1; simpa using this
        have HL5 := hide hl5
        clear hss ho hl5
        go_wp2_with fail
        with_reducible refine HSS.out.mono ?_
        rintro e w7 ⟨rfl, ho7, hb7⟩
        have hb8 := Hb.out.trans hb7
        have hcs := compact_strs A5 N0 c5 wM.heap.size _ w7 ho7 (by rw [List.length_mergeSort]; exact HL5.out) (by omega) hb8.size
        have HCS := hide hcs
        have HB8 := hide hb8
        clear hcs ho7 hb7 hb8
        go_wp2_with fail
        with_reducible refine HCS.out.mono ?_
        rintro e w9 ⟨A9, c9, rfl, hr9, hb9⟩
        go_wp2_with fail
        go_ret
        rw [← HQE.out]
        refine ⟨A9, c9, ?_, ?_, HM.out.trans ((HB8.out.trans hb9).mono HM.out.size)⟩
        · rw [Dif.acc_end]; rfl
        · rw [Dif.acc_end] at hr9; exact hr9
end Go.Proofs.YtjgbadopladmdaaDoor
