/- The law's walk of ProductApart. -/
import Derived.Test.YtjgbadopladmdaaDoorItemW
import Derived.Test.YtjgbadopladmdaaDoorFindW
import Derived.Test.YtjgbadopladmdaaDoorSamePW
import Derived.Test.YtjgbadopladmdaaDoorDigW
namespace Go.Proofs.YtjgbadopladmdaaDoor
open Go.RowKit

theorem itemL_len (x y : Nat) (sw : Bool) : (itemL x y sw).length = 2 := by unfold itemL; cases sw <;> rfl

set_option maxHeartbeats 8000000 in
set_option maxRecDepth 100000 in
theorem apart_law (A : Option Addr) (n c B : Nat) (zs : List Int) (w : World) (hr : Reads w B 1 A n (zs.map (Value.int .i64))) (hB : B ≤ w.heap.size) (hn : n ≤ maxLen) :
    Calls Tryd.prog 7 #[.slice A n c] w fun e w' => e = .returned (.bool true) ∧ Below w.heap.size w w' := by
  obtain ⟨i0, hi, hz0, hz1, hz2⟩ := info_parts info57
  have ht0 : Tape (w.alloc (.cells #[.slice A n c, .int .i64 0] 34)) B w.heap.size 0 := ⟨A, n, c, 0, zs, Blk.new w 34 _, Nat.le_refl _, hr.alloc hB _, hB, hn⟩
  have hcon : Calls Tryd.prog 29 #[.pointer (some ⟨w.heap.size, 0, none⟩), .int .i64 1] (w.alloc (.cells #[.slice A n c, .int .i64 0] 34)) (MadeI (w.alloc (.cells #[.slice A n c, .int .i64 0] 34)) B w.heap.size 0 1) := item_any w.heap.size 0 B 1 _ ht0 (by omega) (by omega)
  have hbt := (Below.refl w.heap.size w).alloc (Nat.le_refl _) (.cells #[.slice A n c, .int .i64 0] 34)
  have hz0' : (w.alloc (.cells #[.slice A n c, .int .i64 0] 34)).heap.size = w.heap.size + 1 := by simp
  have HR := hide hcon
  have HBT := hide hbt
  have HZ0 := hide hz0'
  clear hcon ht0 hbt hz0'
  go_enter Tryd.func7, Tryd.ntmps7
  go_wp2_with fail
  with_reducible refine HR.out.mono ?_
  rintro e w1 ⟨u, v, x, y, b, sw, rfl, hu, hv, hx, hy, hat, htap⟩
  have hbw1 : Below w.heap.size w w1 := HBT.out.grown htap.grow (by have := HZ0.out; omega) (fun x hx => by have := Option.some.inj hx; omega)
  have hLl := itemL_len x y sw
  generalize itemL x y sw = L at hat hLl
  generalize itemP 1 u v = p
  obtain ⟨id, cd, br, d, m, am⟩ := p
  simp only [pv]
  have hzb := htap.size
  have hbl := hat.blk.lt
  have hge := hat.ge
  have HL := hide hLl
  clear hu hv hx hy htap hLl
  go_upto_region 3 with (fail)
  have hpx := Blk.new w1 50 #[.string id, .string cd, .string br, .int .i64 d, .int .i64 m, .int .i64 am, .slice (some ⟨b, 0, none⟩) 2 2]
  have hbwa := hbw1.alloc hbw1.size (.cells #[.string id, .string cd, .string br, .int .i64 d, .int .i64 m, .int .i64 am, .slice (some ⟨b, 0, none⟩) 2 2] 50)
  have hrd0 : Reads (w1.alloc (.cells #[.string id, .string cd, .string br, .int .i64 d, .int .i64 m, .int .i64 am, .slice (some ⟨b, 0, none⟩) 2 2] 50)) (w1.heap.size + 1) 2 (some ⟨b, 0, none⟩) 2 (L.flatMap lc) := by
    refine ⟨by rw [flat_len lc_len, HL.out], fun _ => ⟨_, rfl, by show b < w1.heap.size + 1; omega, fun j u hu => ?_⟩⟩
    have ha : (⟨b, 0, none⟩ : Addr).add j = ⟨b, j, none⟩ := by unfold Addr.add; split <;> simp_all
    rw [ha, (hat.blk.alloc _).cell j, ← hu]
    simp
  have hza : (w1.alloc (.cells #[.string id, .string cd, .string br, .int .i64 d, .int .i64 m, .int .i64 am, .slice (some ⟨b, 0, none⟩) 2 2] 50)).heap.size = w1.heap.size + 1 := by simp
  generalize w1.alloc (.cells #[.string id, .string cd, .string br, .int .i64 d, .int .i64 m, .int .i64 am, .slice (some ⟨b, 0, none⟩) 2 2] 50) = wa at hpx hbwa hrd0 hza ⊢
  have hpa : w1.heap.size < wa.heap.size := by omega
  have hat : Reads wa wa.heap.size 2 (some ⟨b, 0, none⟩) 2 (L.flatMap lc) := hrd0.more (by omega)
  have x0 := hpx.cell 0
  have x1 := hpx.cell 1
  have x2 := hpx.cell 2
  have x3 := hpx.cell 3
  have x4 := hpx.cell 4
  have x5 := hpx.cell 5
  have x6 := hpx.cell 6
  simp only [List.getElem?_toArray, List.getElem?_cons_zero, List.getElem?_cons_succ] at x0 x1 x2 x3 x4 x5 x6
  have HPX := hide hpx
  have hLl := HL.out
  have HBW := hide hbwa
  clear hpx hrd0 hbwa hbw1
  refine wp_region_each (fun a0 D a w => ∃ (eb : Nat) (A3 : Option Addr) (c3 : Nat) (pk : Nat), a = upd a0 [(16, sel (D 0) (.pointer (some ⟨w1.heap.size, 0, none⟩)) undef), (17, sel (D 1) (.string id) undef), (18, sel (D 2) (.pointer (some ⟨w1.heap.size, 1, none⟩)) undef), (19, sel (D 3) (.string cd) undef), (20, sel (D 4) (.pointer (some ⟨w1.heap.size, 2, none⟩)) undef), (21, sel (D 5) (.string br) undef), (22, sel (D 6) (.pointer (some ⟨w1.heap.size, 3, none⟩)) undef), (23, sel (D 7) (.agg #[.int .i64 d, .int .i64 m, .int .i64 am]) undef), (24, sel (D 8) (.slice (some ⟨eb, 0, none⟩) 0 0) undef), (25, sel (D 9) (.pointer (some ⟨w1.heap.size, 6, none⟩)) undef), (26, sel (D 10) (.slice (some ⟨b, 0, none⟩) 2 2) undef), (27, sel (D 11) (.slice A3 2 c3) undef), (28, sel (D 12) (.agg #[.string id, .string cd, .string br, .int .i64 d, .int .i64 m, .int .i64 am, .slice A3 2 c3]) undef), (5, sel (D 13) (.pointer (some ⟨pk, 0, none⟩)) undef)] ∧ (Low wa w) ∧ (D 8 = true → D 11 = false → Owns w wa.heap.size 57 2 (.slice (some ⟨eb, 0, none⟩) 0 0) 0 []) ∧ (D 11 = true → RowL w wa.heap.size A3 2 L) ∧ (D 11 = true → 2 ≤ c3) ∧ (D 13 = true → Has wa w pk 50 (bif D 14 then #[.string id, .string cd, .string br, .int .i64 d, .int .i64 m, .int .i64 am, .slice A3 2 c3] else #[.string ⟨#[]⟩, .string ⟨#[]⟩, .string ⟨#[]⟩, .int .i64 0, .int .i64 0, .int .i64 0, .slice none 0 0]))) (by kernel_rfl) (by kernel_rfl) ?_ ?_ ?_
  · refine ⟨0, none, 0, 0, ?_, Low.mk_ _, fun h => Bool.noConfusion h, fun h => Bool.noConfusion h, fun h => Bool.noConfusion h, fun h => Bool.noConfusion h⟩
    simp [upd, Act.put]
  · refine ⟨?_, ?_, ?_, ?_, ?_, ?_, ?_, ?_, ?_, ?_, ?_, ?_, ?_, ?_, ?_, trivial⟩
    · intro D a w' K hClo hk0 hd hJ hK
      change D 0 = false at hk0
      obtain ⟨eb, A3, c3, pk, rfl, hlow, hemp, hkp, hc3, hbx⟩ := hJ
      have n1 : D 1 = false := hClo.no 1 rfl (k := 0) (by decide) hk0
      have n14 : D 14 = false := hClo.no 14 rfl (k := 0) (by decide) hk0
      have n12 : D 12 = false := hClo.no 12 rfl (k := 1) (by decide) n1
      clear hClo hd
      simp only [upd, Act.put, List.setIfInBounds_toArray, List.set_cons_zero, List.set_cons_succ]
      go_wp2_with fail
      refine hK _ _ ⟨eb, A3, c3, pk, ?_, ?_, ?_, ?_, ?_, ?_⟩
      · clear hK
        simp [upd, Act.put, also, *]
      · exact hlow
      · exact fun h h' => (hemp (by simpa [also] using h) (by simpa [also] using h'))
      · exact fun h => (hkp (by simpa [also] using h))
      · exact fun h => (hc3 (by simpa [also] using h))
      · exact fun h => ((hbx (by simpa [also] using h))).of_eq (by simp [also, *])
    · intro D a w' K hClo hk0 hd hJ hK
      change D 1 = false at hk0
      obtain ⟨eb, A3, c3, pk, rfl, hlow, hemp, hkp, hc3, hbx⟩ := hJ
      have e0 : D 0 = true := hd 0 (by decide)
      have n12 : D 12 = false := hClo.no 12 rfl (k := 1) (by decide) hk0
      have n14 : D 14 = false := hClo.no 14 rfl (k := 1) (by decide) hk0
      clear hClo hd
      have y0 := (hlow.b.cell (p := ⟨w1.heap.size, 0, none⟩) hpa).trans x0
      simp only [upd, Act.put, List.setIfInBounds_toArray, List.set_cons_zero, List.set_cons_succ, e0]
      go_wp2_with fail
      refine hK _ _ ⟨eb, A3, c3, pk, ?_, ?_, ?_, ?_, ?_, ?_⟩
      · clear hK
        simp [upd, Act.put, also, *]
      · exact hlow
      · exact fun h h' => (hemp (by simpa [also] using h) (by simpa [also] using h'))
      · exact fun h => (hkp (by simpa [also] using h))
      · exact fun h => (hc3 (by simpa [also] using h))
      · exact fun h => ((hbx (by simpa [also] using h))).of_eq (by simp [also, *])
    · intro D a w' K hClo hk0 hd hJ hK
      change D 2 = false at hk0
      obtain ⟨eb, A3, c3, pk, rfl, hlow, hemp, hkp, hc3, hbx⟩ := hJ
      have n3 : D 3 = false := hClo.no 3 rfl (k := 2) (by decide) hk0
      have n14 : D 14 = false := hClo.no 14 rfl (k := 2) (by decide) hk0
      have n12 : D 12 = false := hClo.no 12 rfl (k := 3) (by decide) n3
      clear hClo hd
      simp only [upd, Act.put, List.setIfInBounds_toArray, List.set_cons_zero, List.set_cons_succ]
      go_wp2_with fail
      refine hK _ _ ⟨eb, A3, c3, pk, ?_, ?_, ?_, ?_, ?_, ?_⟩
      · clear hK
        simp [upd, Act.put, also, *]
      · exact hlow
      · exact fun h h' => (hemp (by simpa [also] using h) (by simpa [also] using h'))
      · exact fun h => (hkp (by simpa [also] using h))
      · exact fun h => (hc3 (by simpa [also] using h))
      · exact fun h => ((hbx (by simpa [also] using h))).of_eq (by simp [also, *])
    · intro D a w' K hClo hk0 hd hJ hK
      change D 3 = false at hk0
      obtain ⟨eb, A3, c3, pk, rfl, hlow, hemp, hkp, hc3, hbx⟩ := hJ
      have e2 : D 2 = true := hd 2 (by decide)
      have n12 : D 12 = false := hClo.no 12 rfl (k := 3) (by decide) hk0
      have n14 : D 14 = false := hClo.no 14 rfl (k := 3) (by decide) hk0
      clear hClo hd
      have y1 := (hlow.b.cell (p := ⟨w1.heap.size, 1, none⟩) hpa).trans x1
      simp only [upd, Act.put, List.setIfInBounds_toArray, List.set_cons_zero, List.set_cons_succ, e2]
      go_wp2_with fail
      refine hK _ _ ⟨eb, A3, c3, pk, ?_, ?_, ?_, ?_, ?_, ?_⟩
      · clear hK
        simp [upd, Act.put, also, *]
      · exact hlow
      · exact fun h h' => (hemp (by simpa [also] using h) (by simpa [also] using h'))
      · exact fun h => (hkp (by simpa [also] using h))
      · exact fun h => (hc3 (by simpa [also] using h))
      · exact fun h => ((hbx (by simpa [also] using h))).of_eq (by simp [also, *])
    · intro D a w' K hClo hk0 hd hJ hK
      change D 4 = false at hk0
      obtain ⟨eb, A3, c3, pk, rfl, hlow, hemp, hkp, hc3, hbx⟩ := hJ
      have n5 : D 5 = false := hClo.no 5 rfl (k := 4) (by decide) hk0
      have n14 : D 14 = false := hClo.no 14 rfl (k := 4) (by decide) hk0
      have n12 : D 12 = false := hClo.no 12 rfl (k := 5) (by decide) n5
      clear hClo hd
      simp only [upd, Act.put, List.setIfInBounds_toArray, List.set_cons_zero, List.set_cons_succ]
      go_wp2_with fail
      refine hK _ _ ⟨eb, A3, c3, pk, ?_, ?_, ?_, ?_, ?_, ?_⟩
      · clear hK
        simp [upd, Act.put, also, *]
      · exact hlow
      · exact fun h h' => (hemp (by simpa [also] using h) (by simpa [also] using h'))
      · exact fun h => (hkp (by simpa [also] using h))
      · exact fun h => (hc3 (by simpa [also] using h))
      · exact fun h => ((hbx (by simpa [also] using h))).of_eq (by simp [also, *])
    · intro D a w' K hClo hk0 hd hJ hK
      change D 5 = false at hk0
      obtain ⟨eb, A3, c3, pk, rfl, hlow, hemp, hkp, hc3, hbx⟩ := hJ
      have e4 : D 4 = true := hd 4 (by decide)
      have n12 : D 12 = false := hClo.no 12 rfl (k := 5) (by decide) hk0
      have n14 : D 14 = false := hClo.no 14 rfl (k := 5) (by decide) hk0
      clear hClo hd
      have y2 := (hlow.b.cell (p := ⟨w1.heap.size, 2, none⟩) hpa).trans x2
      simp only [upd, Act.put, List.setIfInBounds_toArray, List.set_cons_zero, List.set_cons_succ, e4]
      go_wp2_with fail
      refine hK _ _ ⟨eb, A3, c3, pk, ?_, ?_, ?_, ?_, ?_, ?_⟩
      · clear hK
        simp [upd, Act.put, also, *]
      · exact hlow
      · exact fun h h' => (hemp (by simpa [also] using h) (by simpa [also] using h'))
      · exact fun h => (hkp (by simpa [also] using h))
      · exact fun h => (hc3 (by simpa [also] using h))
      · exact fun h => ((hbx (by simpa [also] using h))).of_eq (by simp [also, *])
    · intro D a w' K hClo hk0 hd hJ hK
      change D 6 = false at hk0
      obtain ⟨eb, A3, c3, pk, rfl, hlow, hemp, hkp, hc3, hbx⟩ := hJ
      have n7 : D 7 = false := hClo.no 7 rfl (k := 6) (by decide) hk0
      have n14 : D 14 = false := hClo.no 14 rfl (k := 6) (by decide) hk0
      have n12 : D 12 = false := hClo.no 12 rfl (k := 7) (by decide) n7
      clear hClo hd
      simp only [upd, Act.put, List.setIfInBounds_toArray, List.set_cons_zero, List.set_cons_succ]
      go_wp2_with fail
      refine hK _ _ ⟨eb, A3, c3, pk, ?_, ?_, ?_, ?_, ?_, ?_⟩
      · clear hK
        simp [upd, Act.put, also, *]
      · exact hlow
      · exact fun h h' => (hemp (by simpa [also] using h) (by simpa [also] using h'))
      · exact fun h => (hkp (by simpa [also] using h))
      · exact fun h => (hc3 (by simpa [also] using h))
      · exact fun h => ((hbx (by simpa [also] using h))).of_eq (by simp [also, *])
    · intro D a w' K hClo hk0 hd hJ hK
      change D 7 = false at hk0
      obtain ⟨eb, A3, c3, pk, rfl, hlow, hemp, hkp, hc3, hbx⟩ := hJ
      have e6 : D 6 = true := hd 6 (by decide)
      have n12 : D 12 = false := hClo.no 12 rfl (k := 7) (by decide) hk0
      have n14 : D 14 = false := hClo.no 14 rfl (k := 7) (by decide) hk0
      clear hClo hd
      have y3 := (hlow.b.cell (p := ⟨w1.heap.size, 3, none⟩) hpa).trans x3
      have y4 := (hlow.b.cell (p := ⟨w1.heap.size, 4, none⟩) hpa).trans x4
      have y5 := (hlow.b.cell (p := ⟨w1.heap.size, 5, none⟩) hpa).trans x5
      simp only [upd, Act.put, List.setIfInBounds_toArray, List.set_cons_zero, List.set_cons_succ, e6]
      go_wp2_with fail
      refine hK _ _ ⟨eb, A3, c3, pk, ?_, ?_, ?_, ?_, ?_, ?_⟩
      · clear hK
        simp [upd, Act.put, also, *]
      · exact hlow
      · exact fun h h' => (hemp (by simpa [also] using h) (by simpa [also] using h'))
      · exact fun h => (hkp (by simpa [also] using h))
      · exact fun h => (hc3 (by simpa [also] using h))
      · exact fun h => ((hbx (by simpa [also] using h))).of_eq (by simp [also, *])
    · intro D a w' K hClo hk0 hd hJ hK
      change D 8 = false at hk0
      obtain ⟨eb, A3, c3, pk, rfl, hlow, hemp, hkp, hc3, hbx⟩ := hJ
      have n11 : D 11 = false := hClo.no 11 rfl (k := 8) (by decide) hk0
      have n14 : D 14 = false := hClo.no 14 rfl (k := 8) (by decide) hk0
      have n12 : D 12 = false := hClo.no 12 rfl (k := 11) (by decide) n11
      clear hClo hd
      simp only [upd, Act.put, List.setIfInBounds_toArray, List.set_cons_zero, List.set_cons_succ]
      go_wp2_with fail
      refine hK _ _ ⟨w'.heap.size, A3, c3, pk, ?_, ?_, ?_, ?_, ?_, ?_⟩
      · clear hK
        simp [upd, Act.put, also, *]
      · exact hlow.alloc _
      · exact fun _ _ => ⟨World.ownsRow_lit (size := 2) w' #[] (e := 57) 0 hlow.size (by decide) rfl⟩
      · exact fun h => by simp [also, *] at h
      · exact fun h => by simp [also, *] at h
      · exact fun h => ((hbx (by simpa [also] using h)).alloc _).of_eq (by simp [also, *])
    · intro D a w' K hClo hk0 hd hJ hK
      change D 9 = false at hk0
      obtain ⟨eb, A3, c3, pk, rfl, hlow, hemp, hkp, hc3, hbx⟩ := hJ
      have n10 : D 10 = false := hClo.no 10 rfl (k := 9) (by decide) hk0
      have n14 : D 14 = false := hClo.no 14 rfl (k := 9) (by decide) hk0
      have n11 : D 11 = false := hClo.no 11 rfl (k := 10) (by decide) n10
      have n12 : D 12 = false := hClo.no 12 rfl (k := 11) (by decide) n11
      clear hClo hd
      simp only [upd, Act.put, List.setIfInBounds_toArray, List.set_cons_zero, List.set_cons_succ]
      go_wp2_with fail
      refine hK _ _ ⟨eb, A3, c3, pk, ?_, ?_, ?_, ?_, ?_, ?_⟩
      · clear hK
        simp [upd, Act.put, also, *]
      · exact hlow
      · exact fun h h' => (hemp (by simpa [also] using h) (by simpa [also] using h'))
      · exact fun h => by simp [also, *] at h
      · exact fun h => by simp [also, *] at h
      · exact fun h => ((hbx (by simpa [also] using h))).of_eq (by simp [also, *])
    · intro D a w' K hClo hk0 hd hJ hK
      change D 10 = false at hk0
      obtain ⟨eb, A3, c3, pk, rfl, hlow, hemp, hkp, hc3, hbx⟩ := hJ
      have e9 : D 9 = true := hd 9 (by decide)
      have n11 : D 11 = false := hClo.no 11 rfl (k := 10) (by decide) hk0
      have n14 : D 14 = false := hClo.no 14 rfl (k := 10) (by decide) hk0
      have n12 : D 12 = false := hClo.no 12 rfl (k := 11) (by decide) n11
      clear hClo hd
      have y6 := (hlow.b.cell (p := ⟨w1.heap.size, 6, none⟩) hpa).trans x6
      simp only [upd, Act.put, List.setIfInBounds_toArray, List.set_cons_zero, List.set_cons_succ, e9]
      go_wp2_with fail
      refine hK _ _ ⟨eb, A3, c3, pk, ?_, ?_, ?_, ?_, ?_, ?_⟩
      · clear hK
        simp [upd, Act.put, also, *]
      · exact hlow
      · exact fun h h' => (hemp (by simpa [also] using h) (by simpa [also] using h'))
      · exact fun h => by simp [also, *] at h
      · exact fun h => by simp [also, *] at h
      · exact fun h => ((hbx (by simpa [also] using h))).of_eq (by simp [also, *])
    · intro D a w' K hClo hk0 hd hJ hK
      change D 11 = false at hk0
      obtain ⟨eb, A3, c3, pk, rfl, hlow, hemp, hkp, hc3, hbx⟩ := hJ
      have e8 : D 8 = true := hd 8 (by decide)
      have e10 : D 10 = true := hd 10 (by decide)
      have n12 : D 12 = false := hClo.no 12 rfl (k := 11) (by decide) hk0
      have n14 : D 14 = false := hClo.no 14 rfl (k := 11) (by decide) hk0
      clear hClo hd
      have hem := hemp e8 hk0
      have hrd := hat.below hlow.b
      have hsz := hlow.size
      have Hem := hide hem
      have Hlow := hide hlow
      clear hem hemp hlow
      simp only [upd, Act.put, List.setIfInBounds_toArray, List.set_cons_zero, List.set_cons_succ, e8, e10]
      go_wp2_with (at_builtin
                   refine wpList_append_any _ rfl _ _ _ rfl wa.heap.size 57 i0 _ 2 32 Tryd.underlying48 hi hz0 hz1 hz2 rfl (by omega) _ 0 [] rfl Hem.out.o wa.heap.size (some ⟨b, 0, none⟩) 2 2 _ rfl hrd (lc_one _) (by unfold maxLen; omega) (by omega) hsz ?_
                   intro v1 w2 hown hg _
                   rw [Nat.zero_add] at hown
                   obtain ⟨A1, c1, rfl, hnc1, _⟩ := own_form hown
                   have Hown := hide hown
                   have Hg := hide hg
                   clear hown hg)
      refine hK _ _ ⟨eb, A1, c1, pk, ?_, ?_, ?_, ?_, ?_, ?_⟩
      · clear hK
        simp [upd, Act.put, also, *]
      · exact ⟨Hlow.out.b.grown Hg.out hsz (own_block_ge Hem.out.o)⟩
      · exact fun _ h => by simp [also] at h
      · exact fun _ => RowL.of_own Hown.out hLl rfl
      · exact fun _ => hnc1
      · exact fun h => ((show Has wa w2 pk 50 _ from ⟨(hbx (by simpa [also] using h)).ge, (hbx (by simpa [also] using h)).blk.grown Hg.out (fun e => own_blk_ne Hem.out.o (hbx (by simpa [also] using h)).blk (by decide) e.symm)⟩)).of_eq (by simp [also, *])
    · intro D a w' K hClo hk0 hd hJ hK
      change D 12 = false at hk0
      obtain ⟨eb, A3, c3, pk, rfl, hlow, hemp, hkp, hc3, hbx⟩ := hJ
      have e1 : D 1 = true := hd 1 (by decide)
      have e3 : D 3 = true := hd 3 (by decide)
      have e5 : D 5 = true := hd 5 (by decide)
      have e7 : D 7 = true := hd 7 (by decide)
      have e11 : D 11 = true := hd 11 (by decide)
      have n14 : D 14 = false := hClo.no 14 rfl (k := 12) (by decide) hk0
      clear hClo hd
      simp only [upd, Act.put, List.setIfInBounds_toArray, List.set_cons_zero, List.set_cons_succ, e1, e3, e5, e7, e11]
      go_wp2_with fail
      refine hK _ _ ⟨eb, A3, c3, pk, ?_, ?_, ?_, ?_, ?_, ?_⟩
      · clear hK
        simp [upd, Act.put, also, *]
      · exact hlow
      · exact fun h h' => (hemp (by simpa [also] using h) (by simpa [also] using h'))
      · exact fun h => (hkp (by simpa [also] using h))
      · exact fun h => (hc3 (by simpa [also] using h))
      · exact fun h => ((hbx (by simpa [also] using h))).of_eq (by simp [also, *])
    · intro D a w' K hClo hk0 hd hJ hK
      change D 13 = false at hk0
      obtain ⟨eb, A3, c3, pk, rfl, hlow, hemp, hkp, hc3, hbx⟩ := hJ
      have n14 : D 14 = false := hClo.no 14 rfl (k := 13) (by decide) hk0
      clear hClo hd
      simp only [upd, Act.put, List.setIfInBounds_toArray, List.set_cons_zero, List.set_cons_succ]
      go_wp2_with fail
      refine hK _ _ ⟨eb, A3, c3, w'.heap.size, ?_, ?_, ?_, ?_, ?_, ?_⟩
      · clear hK
        simp [upd, Act.put, also, *]
      · exact hlow.alloc _
      · exact fun h h' => (hemp (by simpa [also] using h) (by simpa [also] using h')).alloc _
      · exact fun h => (hkp (by simpa [also] using h)).alloc _
      · exact fun h => (hc3 (by simpa [also] using h))
      · exact fun _ => (Has.new hlow.size 50 _).of_eq (by simp [also, n14])
    · intro D a w' K hClo hk0 hd hJ hK
      change D 14 = false at hk0
      obtain ⟨eb, A3, c3, pk, rfl, hlow, hemp, hkp, hc3, hbx⟩ := hJ
      have e0 : D 0 = true := hd 0 (by decide)
      have e1 : D 1 = true := hd 1 (by decide)
      have e2 : D 2 = true := hd 2 (by decide)
      have e3 : D 3 = true := hd 3 (by decide)
      have e4 : D 4 = true := hd 4 (by decide)
      have e5 : D 5 = true := hd 5 (by decide)
      have e6 : D 6 = true := hd 6 (by decide)
      have e7 : D 7 = true := hd 7 (by decide)
      have e8 : D 8 = true := hd 8 (by decide)
      have e9 : D 9 = true := hd 9 (by decide)
      have e10 : D 10 = true := hd 10 (by decide)
      have e11 : D 11 = true := hd 11 (by decide)
      have e12 : D 12 = true := hd 12 (by decide)
      have e13 : D 13 = true := hd 13 (by decide)
      clear hClo hd
      have hbx1 : Has wa w' pk 50 #[.string ⟨#[]⟩, .string ⟨#[]⟩, .string ⟨#[]⟩, .int .i64 0, .int .i64 0, .int .i64 0, .slice none 0 0] := (hbx e13).of_eq (by rw [hk0]; rfl)
      have hge := hbx1.ge
      have hne := (hkp e11).ne_ (by omega) hbx1.blk (by decide)
      have c0 := hbx1.cell 0
      have f0 := hbx1.frozen 0
      have c1 := hbx1.cell 1
      have f1 := hbx1.frozen 1
      have c2 := hbx1.cell 2
      have f2 := hbx1.frozen 2
      have cc3 := hbx1.cell 3
      have f3 := hbx1.frozen 3
      have c4 := hbx1.cell 4
      have f4 := hbx1.frozen 4
      have c5 := hbx1.cell 5
      have f5 := hbx1.frozen 5
      have c6 := hbx1.cell 6
      have f6 := hbx1.frozen 6
      simp only [List.getElem?_toArray, List.getElem?_cons_zero, List.getElem?_cons_succ] at c0 c1 c2 cc3 c4 c5 c6
      have Hbx := hide hbx1
      have Hne := hide hne
      clear hbx1 hbx hne
      simp only [upd, Act.put, List.setIfInBounds_toArray, List.set_cons_zero, List.set_cons_succ, e0, e1, e2, e3, e4, e5, e6, e7, e8, e9, e10, e11, e12, e13]
      go_wp2_with fail
      refine hK _ _ ⟨eb, A3, c3, pk, ?_, ?_, ?_, ?_, ?_, ?_⟩
      · clear hK
        simp [upd, Act.put, also, *]
      · iterate 7 (refine Low.far ?_ hge _)
        exact hlow
      · exact fun _ h => by simp [also, *] at h
      · intro _
        iterate 7 (refine RowL.farne ?_ Hne.out _)
        exact hkp e11
      · exact fun h => (hc3 (by simpa [also] using h))
      · exact fun _ => (((((((Hbx.out.set_ 0 _).set_ 1 _).set_ 2 _).set_ 3 _).set_ 4 _).set_ 5 _).set_ 6 _).of_eq (by simp [also])
  · intro D a' w3 hall hJ
    obtain ⟨eb, A3, c3, pk, rfl, hlow, hemp, hkp, hc3, hbx⟩ := hJ
    have e0 : D 0 = true := hall 0 (by decide)
    have e1 : D 1 = true := hall 1 (by decide)
    have e2 : D 2 = true := hall 2 (by decide)
    have e3 : D 3 = true := hall 3 (by decide)
    have e4 : D 4 = true := hall 4 (by decide)
    have e5 : D 5 = true := hall 5 (by decide)
    have e6 : D 6 = true := hall 6 (by decide)
    have e7 : D 7 = true := hall 7 (by decide)
    have e8 : D 8 = true := hall 8 (by decide)
    have e9 : D 9 = true := hall 9 (by decide)
    have e10 : D 10 = true := hall 10 (by decide)
    have e11 : D 11 = true := hall 11 (by decide)
    have e12 : D 12 = true := hall 12 (by decide)
    have e13 : D 13 = true := hall 13 (by decide)
    have e14 : D 14 = true := hall 14 (by decide)
    clear hall
    clear hemp
    replace hkp := hkp e11
    replace hc3 := hc3 e11
    replace hbx := hbx e13
    replace hbx : Has wa w3 pk 50 #[.string id, .string cd, .string br, .int .i64 d, .int .i64 m, .int .i64 am, .slice A3 2 c3] := hbx.of_eq (by simp [*])
    simp only [upd, Act.put, List.setIfInBounds_toArray, List.set_cons_zero, List.set_cons_succ, sel_true, e0, e1, e2, e3, e4, e5, e6, e7, e8, e9, e10, e11, e12, e13]
    clear e0 e1 e2 e3 e4 e5 e6 e7 e8 e9 e10 e11 e12 e13 e14
    have hb3 := hlow.b
    have hpx3 := HPX.out.below hb3 hpa
    have hat3 := (hat.below hb3).more hlow.size
    have hkr3 := hkp.recs (by omega)
    have hw3 := HBW.out.trans (hb3.mono HBW.out.size)
    have har3 : Recs lc 2 w3 w3.heap.size (some ⟨b, 0, none⟩) 2 L := ⟨hat3, hLl.symm, by omega⟩
    have hpk := hbx.blk
    have hpa3 := hpx3.lt
    have hpk3 := hpk.lt
    have y0 := hpx3.cell 0
    have y1 := hpx3.cell 1
    have y2 := hpx3.cell 2
    have y3 := hpx3.cell 3
    have y4 := hpx3.cell 4
    have y5 := hpx3.cell 5
    have y6 := hpx3.cell 6
    simp only [List.getElem?_toArray, List.getElem?_cons_zero, List.getElem?_cons_succ] at y0 y1 y2 y3 y4 y5 y6
    have hnorm := normalize_any ⟨id, cd, br, d, m, am⟩ (some ⟨b, 0, none⟩) 2 2 w3.heap.size L w3 hat3 hLl.symm (Nat.le_refl _) (by omega)
    simp only [pv] at hnorm
    have HN := hide hnorm
    have HX3 := hide hpx3
    have HAT3 := hide hat3
    have HAR := hide har3
    have HKR := hide hkr3
    have HPK := hide hpk
    have HW3 := hide hw3
    clear hnorm hpx3 hat3 har3 hkr3 hpk hw3 hb3 hlow hkp hbx hat x0 x1 x2 x3 x4 x5 x6
    go_wp2_with fail
    with_reducible refine HN.out.mono ?_
    rintro e w4 ⟨A4, c4, rfl, hr4, hnc4, hB4⟩
    simp only [pv]
    obtain ⟨bn, rfl, hbn, hrow4⟩ := hr4.at_ (by omega)
    have hz4 := hB4.size
    have hpn4 := Blk.new w4 50 #[.string id, .string cd, .string br, .int .i64 d, .int .i64 m, .int .i64 am, .slice (some ⟨bn, 0, none⟩) 2 c4]
    have hB5 := hB4.alloc hz4 (.cells #[.string id, .string cd, .string br, .int .i64 d, .int .i64 m, .int .i64 am, .slice (some ⟨bn, 0, none⟩) 2 c4] 50)
    have hrow5 : RowB (w4.alloc (.cells #[.string id, .string cd, .string br, .int .i64 d, .int .i64 m, .int .i64 am, .slice (some ⟨bn, 0, none⟩) 2 c4] 50)) bn (Srt.srt L) := hrow4.below ((Below.refl _ _).alloc (Nat.le_refl _) _)
    have hz5 : (w4.alloc (.cells #[.string id, .string cd, .string br, .int .i64 d, .int .i64 m, .int .i64 am, .slice (some ⟨bn, 0, none⟩) 2 c4] 50)).heap.size = w4.heap.size + 1 := by simp
    have hbn4 := hrow4.lt
    go_upto_region 5 with (fail)
    generalize w4.alloc (.cells #[.string id, .string cd, .string br, .int .i64 d, .int .i64 m, .int .i64 am, .slice (some ⟨bn, 0, none⟩) 2 c4] 50) = w5 at hpn4 hB5 hrow5 hz5 ⊢
    have hz5a := Nat.le_of_eq hz5
    have hz5b := Nat.le_of_eq hz5.symm
    clear hz5
    have hpx5 := HX3.out.below hB5 (by omega)
    have z0 := hpx5.cell 0
    have z1 := hpx5.cell 1
    have z2 := hpx5.cell 2
    have z3 := hpx5.cell 3
    have z4 := hpx5.cell 4
    have z5 := hpx5.cell 5
    have z6 := hpx5.cell 6
    simp only [List.getElem?_toArray, List.getElem?_cons_zero, List.getElem?_cons_succ] at z0 z1 z2 z3 z4 z5 z6
    have za := fun O => (World.cell?_alloc_lt w5 O ⟨w1.heap.size, 0, none⟩ (by show w1.heap.size < _; omega)).trans z0
    have hB6 := hB5.alloc (by omega) (.cells #[.string id, .string cd, .string br, .int .i64 d, .int .i64 m, .int .i64 am, .slice (some ⟨b, 0, none⟩) 2 2] 50)
    have hz6 : (w5.alloc (.cells #[.string id, .string cd, .string br, .int .i64 d, .int .i64 m, .int .i64 am, .slice (some ⟨b, 0, none⟩) 2 2] 50)).heap.size = w5.heap.size + 1 := by simp
    have hrow6 : RowB (w5.alloc (.cells #[.string id, .string cd, .string br, .int .i64 d, .int .i64 m, .int .i64 am, .slice (some ⟨b, 0, none⟩) 2 2] 50)) bn (Srt.srt L) := hrow5.below ((Below.refl _ _).alloc (Nat.le_refl _) _)
    have hpn6 := hpn4.alloc (.cells #[.string id, .string cd, .string br, .int .i64 d, .int .i64 m, .int .i64 am, .slice (some ⟨b, 0, none⟩) 2 2] 50)
    have hfind := find_one ⟨id, cd, br, d, m, am⟩ ⟨b, 0, none⟩ 2 2 w3.heap.size w5.heap.size L (w5.alloc (.cells #[.string id, .string cd, .string br, .int .i64 d, .int .i64 m, .int .i64 am, .slice (some ⟨b, 0, none⟩) 2 2] 50)) (HAT3.out.below hB6) hLl.symm (by omega) (by omega) (Blk.new w5 50 _)
    have HF := hide hfind
    have HB6 := hide hB6
    have HR6 := hide hrow6
    have HN6 := hide hpn6
    have HZ6 := hide hz6
    clear hfind hB6 hrow6 hpn6 hz6 hpx5 hB5 hrow5 hrow4 hr4 hB4 hpn4
    go_wp2_with fail
    with_reducible refine HF.out.mono ?_
    rintro e w7 ⟨A7, c7, rfl, hr7, hnc7, hB7⟩
    simp only [pv]
    obtain ⟨bp, rfl, hbp, hrow7⟩ := hr7.at_ (by omega)
    have hz7 := hB7.size
    have hz6a := Nat.le_of_eq HZ6.out
    have hz6b := Nat.le_of_eq HZ6.out.symm
    have hbp7 := hrow7.lt
    have hB8 := (HB6.out.trans (hB7.mono (by omega))).alloc (by omega) (.cells #[.string id, .string cd, .string br, .int .i64 d, .int .i64 m, .int .i64 am, .slice (some ⟨bp, 0, none⟩) 2 c7] 50)
    have hrow8 : RowB (w7.alloc (.cells #[.string id, .string cd, .string br, .int .i64 d, .int .i64 m, .int .i64 am, .slice (some ⟨bp, 0, none⟩) 2 c7] 50)) bp L := hrow7.below ((Below.refl _ _).alloc (Nat.le_refl _) _)
    have hrown8 : RowB (w7.alloc (.cells #[.string id, .string cd, .string br, .int .i64 d, .int .i64 m, .int .i64 am, .slice (some ⟨bp, 0, none⟩) 2 c7] 50)) bn (Srt.srt L) := (HR6.out.below hB7).below ((Below.refl _ _).alloc (Nat.le_refl _) _)
    have hpn8 := (HN6.out.below hB7 (by omega)).alloc (.cells #[.string id, .string cd, .string br, .int .i64 d, .int .i64 m, .int .i64 am, .slice (some ⟨bp, 0, none⟩) 2 c7] 50)
    have hpp8 := Blk.new w7 50 #[.string id, .string cd, .string br, .int .i64 d, .int .i64 m, .int .i64 am, .slice (some ⟨bp, 0, none⟩) 2 c7]
    have hz8 : (w7.alloc (.cells #[.string id, .string cd, .string br, .int .i64 d, .int .i64 m, .int .i64 am, .slice (some ⟨bp, 0, none⟩) 2 c7] 50)).heap.size = w7.heap.size + 1 := by simp
    go_upto_region 6 with (fail)
    generalize w7.alloc (.cells #[.string id, .string cd, .string br, .int .i64 d, .int .i64 m, .int .i64 am, .slice (some ⟨bp, 0, none⟩) 2 c7] 50) = w8 at hB8 hrow8 hrown8 hpn8 hpp8 hz8 ⊢
    have hz8a := Nat.le_of_eq hz8
    have hz8b := Nat.le_of_eq hz8.symm
    clear hz8
    clear z0 z1 z2 z3 z4 z5 z6 za y0 y1 y2 y3 y4 y5 y6
    have hpx8 := HX3.out.below hB8 (by omega)
    have hpk8 := HPK.out.below hB8 (by omega)
    have z0 := hpx8.cell 0
    have z1 := hpx8.cell 1
    have z2 := hpx8.cell 2
    have z3 := hpx8.cell 3
    have z4 := hpx8.cell 4
    have z5 := hpx8.cell 5
    have z6 := hpx8.cell 6
    have k0 := hpk8.cell 0
    have k1 := hpk8.cell 1
    have k2 := hpk8.cell 2
    have k3 := hpk8.cell 3
    have k4 := hpk8.cell 4
    have k5 := hpk8.cell 5
    have k6 := hpk8.cell 6
    have nh := hpn8.cell 6
    have ph := hpp8.cell 6
    simp only [List.getElem?_toArray, List.getElem?_cons_zero, List.getElem?_cons_succ] at z0 z1 z2 z3 z4 z5 z6 k0 k1 k2 k3 k4 k5 k6 nh ph
    obtain ⟨r0, r1, hr01⟩ : ∃ r0 r1, L = [r0, r1] := by
      match L, hLl with
      | [r0, r1], _ => exact ⟨r0, r1, rfl⟩
    obtain ⟨s0, s1, hs01⟩ : ∃ s0 s1, Srt.srt L = [s0, s1] := by
      have h2 := Srt.srt_len L
      rw [hLl] at h2
      generalize Srt.srt L = M at h2
      match M, h2 with
      | [r0, r1], _ => exact ⟨r0, r1, rfl⟩
    have n1 : w8.cell? ⟨bn, 1, none⟩ = some (.string s0.2) := (hrown8.cell 0 s0 (by rw [hs01]; rfl)).2
    have n3 : w8.cell? ⟨bn, 3, none⟩ = some (.string s1.2) := (hrown8.cell 1 s1 (by rw [hs01]; rfl)).2
    have p1 : w8.cell? ⟨bp, 1, none⟩ = some (.string r0.2) := (hrow8.cell 0 r0 (by rw [hr01]; rfl)).2
    have p3 : w8.cell? ⟨bp, 3, none⟩ = some (.string r1.2) := (hrow8.cell 1 r1 (by rw [hr01]; rfl)).2
    have fn1 := hrown8.free 1
    have fn3 := hrown8.free 3
    have fp1 := hrow8.free 1
    have fp3 := hrow8.free 3
    have ne1 := hrown8.ne_ hpn8 (by decide)
    have ne2 := hrown8.ne_ hpp8 (by decide)
    have ne3 := hrown8.ne_ hpx8 (by decide)
    have ne4 := hrown8.ne_ hpk8 (by decide)
    have ne5 := hrow8.ne_ hpn8 (by decide)
    have ne6 := hrow8.ne_ hpp8 (by decide)
    have ne7 := hrow8.ne_ hpx8 (by decide)
    have ne8 := hrow8.ne_ hpk8 (by decide)
    have ne9 : bn ≠ bp := by omega
    have hbn3 : w3.heap.size ≤ bn := hbn
    have hbp3 : w3.heap.size ≤ bp := by omega
    have hB9 := (((hB8.setCell (p := ⟨bn, 1, none⟩) hbn3 (.string ⟨#[99, 104, 97, 110, 103, 101, 100]⟩)).setCell (p := ⟨bn, 3, none⟩) hbn3 (.string ⟨#[99, 104, 97, 110, 103, 101, 100]⟩)).setCell (p := ⟨bp, 1, none⟩) hbp3 (.string ⟨#[99, 104, 97, 110, 103, 101, 100]⟩)).setCell (p := ⟨bp, 3, none⟩) hbp3 (.string ⟨#[99, 104, 97, 110, 103, 101, 100]⟩)
    have hsame := same_prod ⟨id, cd, br, d, m, am⟩ (some ⟨b, 0, none⟩) A3 2 2 c3 w3.heap.size L _ (HAR.out.below hB9) (HKR.out.below hB9) hB9.size
    simp only [pv] at hsame
    have HS := hide hsame
    have HB9 := hide hB9
    have HL2 := hide hLl
    clear hsame hB9 hB8 hrow8 hrown8 hpn8 hpp8 hpx8 hpk8 hr01 hs01 hLl hr7 hrow7 hB7
    go_wp2_with fail
    refine wp_loop_rounds 3 ?_
    iterate 3 (rw [rounds_succ]; go_wp2_with fail)
    refine wp_loop_rounds 3 ?_
    iterate 3 (rw [rounds_succ]; go_wp2_with fail)
    with_reducible refine HS.out.mono ?_
    rintro e w9 ⟨rfl, hB10⟩
    go_wp2_with (go_at_call 18; with_reducible refine (awake_any w9).mono ?_; rintro e w10 ⟨rfl, hB11⟩)
    go_ret
    exact ⟨rfl, HW3.out.trans (((HB9.out.trans (hB10.mono HB9.out.size)).trans (hB11.mono (Nat.le_trans HB9.out.size hB10.size))).mono HW3.out.size)⟩
end Go.Proofs.YtjgbadopladmdaaDoor
