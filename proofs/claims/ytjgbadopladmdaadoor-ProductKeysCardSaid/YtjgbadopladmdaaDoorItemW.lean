/- The walk of Item (under way). -/
import Derived.Test.YtjgbadopladmdaaDoorEachT
namespace Go.Proofs.YtjgbadopladmdaaDoor
open Go.RowKit

/-- a maker of a product -/
def MadeI (w : World) (B g j : Nat) (k : Int) (e : Ending) (w' : World) : Prop :=
  ∃ (u v x y b : Nat) (sw : Bool), e = .returned (.agg (pv (itemP k u v) (.slice (some ⟨b, 0, none⟩) 2 2))) ∧ u < 2 ∧ v < 4 ∧ x < 4 ∧ y < 3 ∧ Has w w' b 57 ((itemL x y sw).flatMap lc).toArray ∧ Tap w w' B g (j + 5)

set_option maxHeartbeats 4000000 in
set_option maxRecDepth 100000 in
theorem item_any (g j B k : Nat) (w : World) (ht : Tape w B g j) (hj : j ≤ 10000) (hk : k ≤ 1000) :
    Calls Tryd.prog 29 #[.pointer (some ⟨g, 0, none⟩), .int .i64 k] w (MadeI w B g j k) := by
  have hlt := ht.lt
  have hBg := ht.base
  go_enter Tryd.func29, Tryd.ntmps29
  go_upto_region 1 with (fail)
  have ht1 := ht.alloc (.cells #[.string ⟨#[]⟩, .string ⟨#[]⟩, .string ⟨#[]⟩, .int .i64 0, .int .i64 0, .int .i64 0, .slice none 0 0] 50)
  have hres := Has.new (w0 := w) (Nat.le_refl _) 50 #[.string ⟨#[]⟩, .string ⟨#[]⟩, .string ⟨#[]⟩, .int .i64 0, .int .i64 0, .int .i64 0, .slice none 0 0]
  generalize hw1 : w.alloc (.cells #[.string ⟨#[]⟩, .string ⟨#[]⟩, .string ⟨#[]⟩, .int .i64 0, .int .i64 0, .int .i64 0, .slice none 0 0] 50) = w1 at ht1 hres ⊢
  have hw1z : w1.heap.size = w.heap.size + 1 := by rw [← hw1]; simp
  have hw1g : w.grownBy w1 (some g) := by rw [← hw1]; exact World.grownBy_alloc w _ _
  clear hw1
  refine wp_region_each (fun a0 D a w => ∃ (b1 : Nat) (u : Nat) (v : Nat) (b2 : Nat), a = upd a0 [(6, sel (D 0) (.int .i64 k) undef), (7, sel (D 1) (.string (idS k)) undef), (8, sel (D 2) (.slice (some ⟨b1, 0, none⟩) 2 2) undef), (9, sel (D 3) (.pointer (some ⟨g, 0, none⟩)) undef), (10, sel (D 4) (.int .i64 (u : Int)) undef), (11, sel (D 5) (.pointer (some ⟨b1, u, none⟩)) undef), (12, sel (D 6) (.string (codeS u)) undef), (13, sel (D 7) (.pointer (some ⟨g, 0, none⟩)) undef), (14, sel (D 8) (.int .i64 (v : Int)) undef), (15, sel (D 9) (.int .i64 (50000 * (v : Int))) undef), (16, sel (D 10) (.int .i64 (400000 + 50000 * (v : Int))) undef), (17, sel (D 11) (.agg #[.int .i64 1, .int .i64 1, .int .i64 (400000 + 50000 * (v : Int))]) undef), (18, sel (D 12) (.agg #[.string (idS k), .string (codeS u), .string ⟨#[97, 99, 109, 101]⟩, .int .i64 1, .int .i64 1, .int .i64 (400000 + 50000 * (v : Int)), .slice none 0 0]) undef), (5, sel (D 13) (.pointer (some ⟨b2, 0, none⟩)) undef)] ∧ (Tap w1 w B g (j + (D 4).toNat + (D 8).toNat)) ∧ (D 2 = true → Has w1 w b1 9 #[.string ⟨#[48, 49, 46, 49]⟩, .string ⟨#[48, 49, 46, 50]⟩]) ∧ (D 4 = true → u < 2) ∧ (D 8 = true → v < 4) ∧ (D 13 = true → Has w1 w b2 50 (bif D 14 then #[.string (idS k), .string (codeS u), .string ⟨#[97, 99, 109, 101]⟩, .int .i64 1, .int .i64 1, .int .i64 (400000 + 50000 * (v : Int)), .slice none 0 0] else #[.string ⟨#[]⟩, .string ⟨#[]⟩, .string ⟨#[]⟩, .int .i64 0, .int .i64 0, .int .i64 0, .slice none 0 0]))) (by kernel_rfl) (by kernel_rfl) ?_ ?_ ?_
  · refine ⟨0, 0, 0, 0, ?_, Tap.mk_ ht1, fun h => Bool.noConfusion h, fun h => Bool.noConfusion h, fun h => Bool.noConfusion h, fun h => Bool.noConfusion h⟩
    simp [upd, Act.put]
  · refine ⟨?_, ?_, ?_, ?_, ?_, ?_, ?_, ?_, ?_, ?_, ?_, ?_, ?_, ?_, ?_, trivial⟩
    · intro D a w' K hClo hk0 hd hJ hK
      change D 0 = false at hk0
      obtain ⟨b1, u, v, b2, rfl, htap, hlit, hu, hv, hbox⟩ := hJ
      have n1 : D 1 = false := hClo.no 1 rfl (k := 0) (by decide) hk0
      have n14 : D 14 = false := hClo.no 14 rfl (k := 0) (by decide) hk0
      have n4 : D 4 = false := hClo.no 4 rfl (k := 1) (by decide) n1
      have n12 : D 12 = false := hClo.no 12 rfl (k := 1) (by decide) n1
      have n5 : D 5 = false := hClo.no 5 rfl (k := 4) (by decide) n4
      have n8 : D 8 = false := hClo.no 8 rfl (k := 4) (by decide) n4
      have n6 : D 6 = false := hClo.no 6 rfl (k := 5) (by decide) n5
      have n9 : D 9 = false := hClo.no 9 rfl (k := 8) (by decide) n8
      have n10 : D 10 = false := hClo.no 10 rfl (k := 9) (by decide) n9
      have n11 : D 11 = false := hClo.no 11 rfl (k := 10) (by decide) n10
      clear hClo hd
      simp only [upd, Act.put, List.setIfInBounds_toArray, List.set_cons_zero, List.set_cons_succ]
      go_wp2_with fail
      refine hK _ _ ⟨b1, u, v, b2, ?_, ?_, ?_, ?_, ?_, ?_⟩
      · clear hK
        simp [upd, Act.put, also, *]
      · exact (htap).of_eq (by simp [also, *])
      · exact fun h => (hlit (by simpa [also] using h))
      · exact fun h => by simp [also, *] at h
      · exact fun h => by simp [also, *] at h
      · exact fun h => ((hbox (by simpa [also] using h))).of_eq (by simp [also, *])
    · intro D a w' K hClo hk0 hd hJ hK
      change D 1 = false at hk0
      obtain ⟨b1, u, v, b2, rfl, htap, hlit, hu, hv, hbox⟩ := hJ
      have e0 : D 0 = true := hd 0 (by decide)
      have n4 : D 4 = false := hClo.no 4 rfl (k := 1) (by decide) hk0
      have n12 : D 12 = false := hClo.no 12 rfl (k := 1) (by decide) hk0
      have n14 : D 14 = false := hClo.no 14 rfl (k := 1) (by decide) hk0
      have n5 : D 5 = false := hClo.no 5 rfl (k := 4) (by decide) n4
      have n8 : D 8 = false := hClo.no 8 rfl (k := 4) (by decide) n4
      have n6 : D 6 = false := hClo.no 6 rfl (k := 5) (by decide) n5
      have n9 : D 9 = false := hClo.no 9 rfl (k := 8) (by decide) n8
      have n10 : D 10 = false := hClo.no 10 rfl (k := 9) (by decide) n9
      have n11 : D 11 = false := hClo.no 11 rfl (k := 10) (by decide) n10
      clear hClo hd
      simp only [upd, Act.put, List.setIfInBounds_toArray, List.set_cons_zero, List.set_cons_succ, e0]
      go_wp2_with fail
      with_reducible refine (id_is k _ (by omega) (by omega)).mono ?_
      rintro e w2 ⟨rfl, hB2⟩
      go_wp2_with fail
      refine hK _ _ ⟨b1, u, v, b2, ?_, ?_, ?_, ?_, ?_, ?_⟩
      · clear hK
        simp [upd, Act.put, also, *]
      · exact (htap.below hB2).of_eq (by simp [also, *])
      · exact fun h => (hlit (by simpa [also] using h)).below hB2
      · exact fun h => by simp [also, *] at h
      · exact fun h => by simp [also, *] at h
      · exact fun h => ((hbox (by simpa [also] using h)).below hB2).of_eq (by simp [also, *])
    · intro D a w' K hClo hk0 hd hJ hK
      change D 2 = false at hk0
      obtain ⟨b1, u, v, b2, rfl, htap, hlit, hu, hv, hbox⟩ := hJ
      have n5 : D 5 = false := hClo.no 5 rfl (k := 2) (by decide) hk0
      have n14 : D 14 = false := hClo.no 14 rfl (k := 2) (by decide) hk0
      have n6 : D 6 = false := hClo.no 6 rfl (k := 5) (by decide) n5
      have n12 : D 12 = false := hClo.no 12 rfl (k := 6) (by decide) n6
      clear hClo hd
      simp only [upd, Act.put, List.setIfInBounds_toArray, List.set_cons_zero, List.set_cons_succ]
      go_wp2_with fail
      refine hK _ _ ⟨w'.heap.size, u, v, b2, ?_, ?_, ?_, ?_, ?_, ?_⟩
      · clear hK
        simp [upd, Act.put, also, *]
      · exact (htap.alloc _).of_eq (by simp [also, *])
      · exact fun _ => Has.new htap.size 9 _
      · exact fun h => (hu (by simpa [also] using h))
      · exact fun h => (hv (by simpa [also] using h))
      · exact fun h => ((hbox (by simpa [also] using h)).alloc _).of_eq (by simp [also, *])
    · intro D a w' K hClo hk0 hd hJ hK
      change D 3 = false at hk0
      obtain ⟨b1, u, v, b2, rfl, htap, hlit, hu, hv, hbox⟩ := hJ
      have n4 : D 4 = false := hClo.no 4 rfl (k := 3) (by decide) hk0
      have n14 : D 14 = false := hClo.no 14 rfl (k := 3) (by decide) hk0
      have n5 : D 5 = false := hClo.no 5 rfl (k := 4) (by decide) n4
      have n8 : D 8 = false := hClo.no 8 rfl (k := 4) (by decide) n4
      have n6 : D 6 = false := hClo.no 6 rfl (k := 5) (by decide) n5
      have n9 : D 9 = false := hClo.no 9 rfl (k := 8) (by decide) n8
      have n12 : D 12 = false := hClo.no 12 rfl (k := 6) (by decide) n6
      have n10 : D 10 = false := hClo.no 10 rfl (k := 9) (by decide) n9
      have n11 : D 11 = false := hClo.no 11 rfl (k := 10) (by decide) n10
      clear hClo hd
      simp only [upd, Act.put, List.setIfInBounds_toArray, List.set_cons_zero, List.set_cons_succ]
      go_wp2_with fail
      refine hK _ _ ⟨b1, u, v, b2, ?_, ?_, ?_, ?_, ?_, ?_⟩
      · clear hK
        simp [upd, Act.put, also, *]
      · exact (htap).of_eq (by simp [also, *])
      · exact fun h => (hlit (by simpa [also] using h))
      · exact fun h => by simp [also, *] at h
      · exact fun h => by simp [also, *] at h
      · exact fun h => ((hbox (by simpa [also] using h))).of_eq (by simp [also, *])
    · intro D a w' K hClo hk0 hd hJ hK
      change D 4 = false at hk0
      obtain ⟨b1, u, v, b2, rfl, htap, hlit, hu, hv, hbox⟩ := hJ
      have e1 : D 1 = true := hd 1 (by decide)
      have e3 : D 3 = true := hd 3 (by decide)
      have n5 : D 5 = false := hClo.no 5 rfl (k := 4) (by decide) hk0
      have n8 : D 8 = false := hClo.no 8 rfl (k := 4) (by decide) hk0
      have n14 : D 14 = false := hClo.no 14 rfl (k := 4) (by decide) hk0
      have n6 : D 6 = false := hClo.no 6 rfl (k := 5) (by decide) n5
      have n9 : D 9 = false := hClo.no 9 rfl (k := 8) (by decide) n8
      have n12 : D 12 = false := hClo.no 12 rfl (k := 6) (by decide) n6
      have n10 : D 10 = false := hClo.no 10 rfl (k := 9) (by decide) n9
      have n11 : D 11 = false := hClo.no 11 rfl (k := 10) (by decide) n10
      clear hClo hd
      have ht0 := (show Tap w1 w' B g j from htap.of_eq (by simp [hk0, n8]))
      simp only [upd, Act.put, List.setIfInBounds_toArray, List.set_cons_zero, List.set_cons_succ, e1, e3]
      go_wp2_with fail
      with_reducible refine (next_any g _ B 2 _ ht0.tape (by omega) (by omega) (by omega)).mono ?_
      rintro e w2 ⟨z, rfl, z0, z1, ht2, hg2⟩
      obtain ⟨z, rfl⟩ := Int.eq_ofNat_of_zero_le z0
      go_wp2_with fail
      refine hK _ _ ⟨b1, z, v, b2, ?_, ?_, ?_, ?_, ?_, ?_⟩
      · clear hK
        simp [upd, Act.put, also, *]
      · exact (ht0.next hg2 ht2).of_eq (by simp [also, *])
      · exact fun h => (hlit (by simpa [also] using h)).grown hg2 ht0.lt
      · exact fun _ => by omega
      · exact fun h => by simp [also, *] at h
      · exact fun h => ((hbox (by simpa [also] using h)).grown hg2 ht0.lt).of_eq (by simp [also, *])
    · intro D a w' K hClo hk0 hd hJ hK
      change D 5 = false at hk0
      obtain ⟨b1, u, v, b2, rfl, htap, hlit, hu, hv, hbox⟩ := hJ
      have e2 : D 2 = true := hd 2 (by decide)
      have e4 : D 4 = true := hd 4 (by decide)
      have n6 : D 6 = false := hClo.no 6 rfl (k := 5) (by decide) hk0
      have n14 : D 14 = false := hClo.no 14 rfl (k := 5) (by decide) hk0
      have n12 : D 12 = false := hClo.no 12 rfl (k := 6) (by decide) n6
      clear hClo hd
      have hu2 := hu e4
      have hu1 : (u : Int) < 2 := by omega
      simp only [upd, Act.put, List.setIfInBounds_toArray, List.set_cons_zero, List.set_cons_succ, e2, e4]
      go_wp2_with fail
      refine hK _ _ ⟨b1, u, v, b2, ?_, ?_, ?_, ?_, ?_, ?_⟩
      · clear hK
        simp [upd, Act.put, also, *]
      · exact (htap).of_eq (by simp [also, *])
      · exact fun h => (hlit (by simpa [also] using h))
      · exact fun h => (hu (by simpa [also] using h))
      · exact fun h => (hv (by simpa [also] using h))
      · exact fun h => ((hbox (by simpa [also] using h))).of_eq (by simp [also, *])
    · intro D a w' K hClo hk0 hd hJ hK
      change D 6 = false at hk0
      obtain ⟨b1, u, v, b2, rfl, htap, hlit, hu, hv, hbox⟩ := hJ
      have e5 : D 5 = true := hd 5 (by decide)
      have n12 : D 12 = false := hClo.no 12 rfl (k := 6) (by decide) hk0
      have n14 : D 14 = false := hClo.no 14 rfl (k := 6) (by decide) hk0
      have q2_5 : D 2 = true := (hClo 5 _ rfl e5 2 (by decide))
      have q4_5 : D 4 = true := (hClo 5 _ rfl e5 4 (by decide))
      clear hClo hd
      have hc : w'.cell? ⟨b1, u, none⟩ = some (.string (codeS u)) := by
        have hu2 := hu q4_5
        have := (hlit q2_5).cell u
        rw [this]
        obtain rfl | rfl : u = 0 ∨ u = 1 := by omega
        · rfl
        · rfl
      simp only [upd, Act.put, List.setIfInBounds_toArray, List.set_cons_zero, List.set_cons_succ, e5]
      go_wp2_with fail
      refine hK _ _ ⟨b1, u, v, b2, ?_, ?_, ?_, ?_, ?_, ?_⟩
      · clear hK
        simp [upd, Act.put, also, *]
      · exact (htap).of_eq (by simp [also, *])
      · exact fun h => (hlit (by simpa [also] using h))
      · exact fun h => (hu (by simpa [also] using h))
      · exact fun h => (hv (by simpa [also] using h))
      · exact fun h => ((hbox (by simpa [also] using h))).of_eq (by simp [also, *])
    · intro D a w' K hClo hk0 hd hJ hK
      change D 7 = false at hk0
      obtain ⟨b1, u, v, b2, rfl, htap, hlit, hu, hv, hbox⟩ := hJ
      have n8 : D 8 = false := hClo.no 8 rfl (k := 7) (by decide) hk0
      have n14 : D 14 = false := hClo.no 14 rfl (k := 7) (by decide) hk0
      have n9 : D 9 = false := hClo.no 9 rfl (k := 8) (by decide) n8
      have n10 : D 10 = false := hClo.no 10 rfl (k := 9) (by decide) n9
      have n11 : D 11 = false := hClo.no 11 rfl (k := 10) (by decide) n10
      have n12 : D 12 = false := hClo.no 12 rfl (k := 11) (by decide) n11
      clear hClo hd
      simp only [upd, Act.put, List.setIfInBounds_toArray, List.set_cons_zero, List.set_cons_succ]
      go_wp2_with fail
      refine hK _ _ ⟨b1, u, v, b2, ?_, ?_, ?_, ?_, ?_, ?_⟩
      · clear hK
        simp [upd, Act.put, also, *]
      · exact (htap).of_eq (by simp [also, *])
      · exact fun h => (hlit (by simpa [also] using h))
      · exact fun h => (hu (by simpa [also] using h))
      · exact fun h => by simp [also, *] at h
      · exact fun h => ((hbox (by simpa [also] using h))).of_eq (by simp [also, *])
    · intro D a w' K hClo hk0 hd hJ hK
      change D 8 = false at hk0
      obtain ⟨b1, u, v, b2, rfl, htap, hlit, hu, hv, hbox⟩ := hJ
      have e4 : D 4 = true := hd 4 (by decide)
      have e7 : D 7 = true := hd 7 (by decide)
      have n9 : D 9 = false := hClo.no 9 rfl (k := 8) (by decide) hk0
      have n14 : D 14 = false := hClo.no 14 rfl (k := 8) (by decide) hk0
      have n10 : D 10 = false := hClo.no 10 rfl (k := 9) (by decide) n9
      have n11 : D 11 = false := hClo.no 11 rfl (k := 10) (by decide) n10
      have n12 : D 12 = false := hClo.no 12 rfl (k := 11) (by decide) n11
      clear hClo hd
      have ht0 := (show Tap w1 w' B g (j + 1) from htap.of_eq (by simp [hk0, e4]))
      simp only [upd, Act.put, List.setIfInBounds_toArray, List.set_cons_zero, List.set_cons_succ, e4, e7]
      go_wp2_with fail
      with_reducible refine (next_any g _ B 4 _ ht0.tape (by omega) (by omega) (by omega)).mono ?_
      rintro e w2 ⟨z, rfl, z0, z1, ht2, hg2⟩
      obtain ⟨z, rfl⟩ := Int.eq_ofNat_of_zero_le z0
      go_wp2_with fail
      refine hK _ _ ⟨b1, u, z, b2, ?_, ?_, ?_, ?_, ?_, ?_⟩
      · clear hK
        simp [upd, Act.put, also, *]
      · exact (ht0.next hg2 ht2).of_eq (by simp [also, *])
      · exact fun h => (hlit (by simpa [also] using h)).grown hg2 ht0.lt
      · exact fun h => (hu (by simpa [also] using h))
      · exact fun _ => by omega
      · exact fun h => ((hbox (by simpa [also] using h)).grown hg2 ht0.lt).of_eq (by simp [also, *])
    · intro D a w' K hClo hk0 hd hJ hK
      change D 9 = false at hk0
      obtain ⟨b1, u, v, b2, rfl, htap, hlit, hu, hv, hbox⟩ := hJ
      have e8 : D 8 = true := hd 8 (by decide)
      have n10 : D 10 = false := hClo.no 10 rfl (k := 9) (by decide) hk0
      have n14 : D 14 = false := hClo.no 14 rfl (k := 9) (by decide) hk0
      have n11 : D 11 = false := hClo.no 11 rfl (k := 10) (by decide) n10
      have n12 : D 12 = false := hClo.no 12 rfl (k := 11) (by decide) n11
      clear hClo hd
      have hv2 := hv e8
      have hv1 : (v : Int) < 4 := by omega
      simp only [upd, Act.put, List.setIfInBounds_toArray, List.set_cons_zero, List.set_cons_succ, e8]
      go_wp2_with fail
      refine hK _ _ ⟨b1, u, v, b2, ?_, ?_, ?_, ?_, ?_, ?_⟩
      · clear hK
        simp [upd, Act.put, also, *]
      · exact (htap).of_eq (by simp [also, *])
      · exact fun h => (hlit (by simpa [also] using h))
      · exact fun h => (hu (by simpa [also] using h))
      · exact fun h => (hv (by simpa [also] using h))
      · exact fun h => ((hbox (by simpa [also] using h))).of_eq (by simp [also, *])
    · intro D a w' K hClo hk0 hd hJ hK
      change D 10 = false at hk0
      obtain ⟨b1, u, v, b2, rfl, htap, hlit, hu, hv, hbox⟩ := hJ
      have e9 : D 9 = true := hd 9 (by decide)
      have n11 : D 11 = false := hClo.no 11 rfl (k := 10) (by decide) hk0
      have n14 : D 14 = false := hClo.no 14 rfl (k := 10) (by decide) hk0
      have n12 : D 12 = false := hClo.no 12 rfl (k := 11) (by decide) n11
      have q8_9 : D 8 = true := (hClo 9 _ rfl e9 8 (by decide))
      clear hClo hd
      have hv2 : v < 4 := hv q8_9
      have hv1 : (v : Int) < 4 := by omega
      simp only [upd, Act.put, List.setIfInBounds_toArray, List.set_cons_zero, List.set_cons_succ, e9]
      go_wp2_with fail
      refine hK _ _ ⟨b1, u, v, b2, ?_, ?_, ?_, ?_, ?_, ?_⟩
      · clear hK
        simp [upd, Act.put, also, *]
      · exact (htap).of_eq (by simp [also, *])
      · exact fun h => (hlit (by simpa [also] using h))
      · exact fun h => (hu (by simpa [also] using h))
      · exact fun h => (hv (by simpa [also] using h))
      · exact fun h => ((hbox (by simpa [also] using h))).of_eq (by simp [also, *])
    · intro D a w' K hClo hk0 hd hJ hK
      change D 11 = false at hk0
      obtain ⟨b1, u, v, b2, rfl, htap, hlit, hu, hv, hbox⟩ := hJ
      have e10 : D 10 = true := hd 10 (by decide)
      have n12 : D 12 = false := hClo.no 12 rfl (k := 11) (by decide) hk0
      have n14 : D 14 = false := hClo.no 14 rfl (k := 11) (by decide) hk0
      clear hClo hd
      simp only [upd, Act.put, List.setIfInBounds_toArray, List.set_cons_zero, List.set_cons_succ, e10]
      go_wp2_with fail
      refine hK _ _ ⟨b1, u, v, b2, ?_, ?_, ?_, ?_, ?_, ?_⟩
      · clear hK
        simp [upd, Act.put, also, *]
      · exact (htap).of_eq (by simp [also, *])
      · exact fun h => (hlit (by simpa [also] using h))
      · exact fun h => (hu (by simpa [also] using h))
      · exact fun h => (hv (by simpa [also] using h))
      · exact fun h => ((hbox (by simpa [also] using h))).of_eq (by simp [also, *])
    · intro D a w' K hClo hk0 hd hJ hK
      change D 12 = false at hk0
      obtain ⟨b1, u, v, b2, rfl, htap, hlit, hu, hv, hbox⟩ := hJ
      have e1 : D 1 = true := hd 1 (by decide)
      have e6 : D 6 = true := hd 6 (by decide)
      have e11 : D 11 = true := hd 11 (by decide)
      have n14 : D 14 = false := hClo.no 14 rfl (k := 12) (by decide) hk0
      clear hClo hd
      simp only [upd, Act.put, List.setIfInBounds_toArray, List.set_cons_zero, List.set_cons_succ, e1, e6, e11]
      go_wp2_with fail
      refine hK _ _ ⟨b1, u, v, b2, ?_, ?_, ?_, ?_, ?_, ?_⟩
      · clear hK
        simp [upd, Act.put, also, *]
      · exact (htap).of_eq (by simp [also, *])
      · exact fun h => (hlit (by simpa [also] using h))
      · exact fun h => (hu (by simpa [also] using h))
      · exact fun h => (hv (by simpa [also] using h))
      · exact fun h => ((hbox (by simpa [also] using h))).of_eq (by simp [also, *])
    · intro D a w' K hClo hk0 hd hJ hK
      change D 13 = false at hk0
      obtain ⟨b1, u, v, b2, rfl, htap, hlit, hu, hv, hbox⟩ := hJ
      have n14 : D 14 = false := hClo.no 14 rfl (k := 13) (by decide) hk0
      clear hClo hd
      simp only [upd, Act.put, List.setIfInBounds_toArray, List.set_cons_zero, List.set_cons_succ]
      go_wp2_with fail
      refine hK _ _ ⟨b1, u, v, w'.heap.size, ?_, ?_, ?_, ?_, ?_, ?_⟩
      · clear hK
        simp [upd, Act.put, also, *]
      · exact (htap.alloc _).of_eq (by simp [also, *])
      · exact fun h => (hlit (by simpa [also] using h)).alloc _
      · exact fun h => (hu (by simpa [also] using h))
      · exact fun h => (hv (by simpa [also] using h))
      · exact fun _ => (Has.new htap.size 50 _).of_eq (by simp [also, n14])
    · intro D a w' K hClo hk0 hd hJ hK
      change D 14 = false at hk0
      obtain ⟨b1, u, v, b2, rfl, htap, hlit, hu, hv, hbox⟩ := hJ
      have e0 : D 0 = true := hd 0 (by decide)
      have e1 : D 1 = true := hd 1 (by decide)
      have e2 : D 2 = true := hd 2 (by decide)
      have e3 : D 3 = true := hd 3 (by decide)
      have e4 : D 4 = true := hd 4 (by decide)
      have e5 : D 5 = true := hd 5 (by decide)
      have e6 : D 6 = true := hd 6 (by decide)
      have e7 : D 7 = true := hd 7 (by decide)
      have e8 : D 8 = true := hd 8 (by decide)
      have e9 : D 9 = true := hd 9 (by decide)
      have e10 : D 10 = true := hd 10 (by decide)
      have e11 : D 11 = true := hd 11 (by decide)
      have e12 : D 12 = true := hd 12 (by decide)
      have e13 : D 13 = true := hd 13 (by decide)
      clear hClo hd
      have hbx : Has w1 w' b2 50 #[.string ⟨#[]⟩, .string ⟨#[]⟩, .string ⟨#[]⟩, .int .i64 0, .int .i64 0, .int .i64 0, .slice none 0 0] := (hbox e13).of_eq (by rw [hk0]; rfl)
      have hge := hbx.ge
      have hne : b2 ≠ b1 := hbx.blk.ne_ (hlit e2).blk (by decide)
      have c0 := hbx.cell 0
      have f0 := hbx.frozen 0
      have c1 := hbx.cell 1
      have f1 := hbx.frozen 1
      have c2 := hbx.cell 2
      have f2 := hbx.frozen 2
      have c3 := hbx.cell 3
      have f3 := hbx.frozen 3
      have c4 := hbx.cell 4
      have f4 := hbx.frozen 4
      have c5 := hbx.cell 5
      have f5 := hbx.frozen 5
      have c6 := hbx.cell 6
      have f6 := hbx.frozen 6
      simp only [List.getElem?_toArray, List.getElem?_cons_zero, List.getElem?_cons_succ] at c0 c1 c2 c3 c4 c5 c6
      have Hbx := hide hbx
      clear hbx
      simp only [upd, Act.put, List.setIfInBounds_toArray, List.set_cons_zero, List.set_cons_succ, e0, e1, e2, e3, e4, e5, e6, e7, e8, e9, e10, e11, e12, e13]
      go_wp2_with fail
      refine hK _ _ ⟨b1, u, v, b2, ?_, ?_, ?_, ?_, ?_, ?_⟩
      · clear hK
        simp [upd, Act.put, also, *]
      · iterate 7 (refine Tap.far ?_ hge _)
        exact htap.of_eq (by simp [also])
      · intro _
        iterate 7 (refine Has.far ?_ hne _)
        exact hlit e2
      · exact fun h => (hu (by simpa [also] using h))
      · exact fun h => (hv (by simpa [also] using h))
      · exact fun _ => (((((((Hbx.out.set_ 0 _).set_ 1 _).set_ 2 _).set_ 3 _).set_ 4 _).set_ 5 _).set_ 6 _).of_eq (by simp [also])
  · intro D a' wa hall hJ
    obtain ⟨b1, u, v, b2, rfl, htap, hlit, hu, hv, hbox⟩ := hJ
    have e0 : D 0 = true := hall 0 (by decide)
    have e1 : D 1 = true := hall 1 (by decide)
    have e2 : D 2 = true := hall 2 (by decide)
    have e3 : D 3 = true := hall 3 (by decide)
    have e4 : D 4 = true := hall 4 (by decide)
    have e5 : D 5 = true := hall 5 (by decide)
    have e6 : D 6 = true := hall 6 (by decide)
    have e7 : D 7 = true := hall 7 (by decide)
    have e8 : D 8 = true := hall 8 (by decide)
    have e9 : D 9 = true := hall 9 (by decide)
    have e10 : D 10 = true := hall 10 (by decide)
    have e11 : D 11 = true := hall 11 (by decide)
    have e12 : D 12 = true := hall 12 (by decide)
    have e13 : D 13 = true := hall 13 (by decide)
    have e14 : D 14 = true := hall 14 (by decide)
    clear hall
    replace htap : Tap w1 wa B g (j + 2) := htap.of_eq (by simp [*])
    replace hlit := hlit e2
    replace hu := hu e4
    replace hv := hv e8
    replace hbox := hbox e13
    replace hbox : Has w1 wa b2 50 #[.string (idS k), .string (codeS u), .string ⟨#[97, 99, 109, 101]⟩, .int .i64 1, .int .i64 1, .int .i64 (400000 + 50000 * (v : Int)), .slice none 0 0] := hbox.of_eq (by simp [*])
    simp only [upd, Act.put, List.setIfInBounds_toArray, List.set_cons_zero, List.set_cons_succ, sel_true, e0, e1, e2, e3, e4, e5, e6, e7, e8, e9, e10, e11, e12, e13]
    clear e0 e1 e2 e3 e4 e5 e6 e7 e8 e9 e10 e11 e12 e13 e14
    go_upto_region 2 with (fail)
    refine wp_region_each (fun a0 D a w => ∃ (b3 : Nat) (x : Nat) (b4 : Nat) (y : Nat) (b5 : Nat), a = upd a0 [(19, sel (D 0) (.slice (some ⟨b3, 0, none⟩) 4 4) undef), (20, sel (D 1) (.pointer (some ⟨g, 0, none⟩)) undef), (21, sel (D 2) (.int .i64 (x : Int)) undef), (22, sel (D 3) (.pointer (some ⟨b3, x, none⟩)) undef), (23, sel (D 4) (.string (powS x)) undef), (24, sel (D 5) (.agg #[.string powN, .string (powS x)]) undef), (25, sel (D 6) (.slice (some ⟨b4, 0, none⟩) 3 3) undef), (26, sel (D 7) (.pointer (some ⟨g, 0, none⟩)) undef), (27, sel (D 8) (.int .i64 (y : Int)) undef), (28, sel (D 9) (.pointer (some ⟨b4, y, none⟩)) undef), (29, sel (D 10) (.string (colS y)) undef), (30, sel (D 11) (.agg #[.string colN, .string (colS y)]) undef), (31, sel (D 12) (.slice (some ⟨b5, 0, none⟩) 2 2) undef), (32, sel (D 13) (.pointer (some ⟨b2, 6, none⟩)) undef)] ∧ (Tap w1 w B g (j + 2 + (D 2).toNat + (D 8).toNat)) ∧ (D 0 = true → Has w1 w b3 9 #[.string ⟨#[49]⟩, .string ⟨#[50]⟩, .string ⟨#[50, 46, 53]⟩, .string ⟨#[52]⟩]) ∧ (D 6 = true → Has w1 w b4 9 #[.string ⟨#[114, 101, 100]⟩, .string ⟨#[98, 108, 117, 101]⟩, .string ⟨#[103, 114, 101, 101, 110]⟩]) ∧ (D 2 = true → x < 4) ∧ (D 8 = true → y < 3) ∧ (D 12 = true → Has w1 w b5 57 #[.string powN, .string (powS x), .string colN, .string (colS y)]) ∧ (Has w1 w b2 50 (bif D 14 then #[.string (idS k), .string (codeS u), .string ⟨#[97, 99, 109, 101]⟩, .int .i64 1, .int .i64 1, .int .i64 (400000 + 50000 * (v : Int)), .slice (some ⟨b5, 0, none⟩) 2 2] else #[.string (idS k), .string (codeS u), .string ⟨#[97, 99, 109, 101]⟩, .int .i64 1, .int .i64 1, .int .i64 (400000 + 50000 * (v : Int)), .slice none 0 0]))) (by kernel_rfl) (by kernel_rfl) ?_ ?_ ?_
    · refine ⟨0, 0, 0, 0, 0, ?_, htap.drew, fun h => Bool.noConfusion h, fun h => Bool.noConfusion h, fun h => Bool.noConfusion h, fun h => Bool.noConfusion h, fun h => Bool.noConfusion h, hbox.drew⟩
      simp [upd, Act.put]
    · refine ⟨?_, ?_, ?_, ?_, ?_, ?_, ?_, ?_, ?_, ?_, ?_, ?_, ?_, ?_, ?_, trivial⟩
      · intro D a w' K hClo hk0 hd hJ hK
        change D 0 = false at hk0
        obtain ⟨b3, x, b4, y, b5, rfl, htap, hpl, hcl, hx, hy, hat, hbx⟩ := hJ
        have n3 : D 3 = false := hClo.no 3 rfl (k := 0) (by decide) hk0
        have n13 : D 13 = false := hClo.no 13 rfl (k := 0) (by decide) hk0
        have n14 : D 14 = false := hClo.no 14 rfl (k := 0) (by decide) hk0
        have n4 : D 4 = false := hClo.no 4 rfl (k := 3) (by decide) n3
        have n5 : D 5 = false := hClo.no 5 rfl (k := 4) (by decide) n4
        have n12 : D 12 = false := hClo.no 12 rfl (k := 5) (by decide) n5
        clear hClo hd
        simp only [upd, Act.put, List.setIfInBounds_toArray, List.set_cons_zero, List.set_cons_succ]
        go_wp2_with fail
        refine hK _ _ ⟨w'.heap.size, x, b4, y, b5, ?_, ?_, ?_, ?_, ?_, ?_, ?_, ?_⟩
        · clear hK
          simp [upd, Act.put, also, *]
        · exact (htap.alloc _).of_eq (by simp [also, *])
        · exact fun _ => Has.new htap.size 9 _
        · exact fun h => (hcl (by simpa [also] using h)).alloc _
        · exact fun h => (hx (by simpa [also] using h))
        · exact fun h => (hy (by simpa [also] using h))
        · exact fun h => by simp [also, *] at h
        · exact (hbx.alloc _).of_eq (by simp [also, *])
      · intro D a w' K hClo hk0 hd hJ hK
        change D 1 = false at hk0
        obtain ⟨b3, x, b4, y, b5, rfl, htap, hpl, hcl, hx, hy, hat, hbx⟩ := hJ
        have n2 : D 2 = false := hClo.no 2 rfl (k := 1) (by decide) hk0
        have n13 : D 13 = false := hClo.no 13 rfl (k := 1) (by decide) hk0
        have n14 : D 14 = false := hClo.no 14 rfl (k := 1) (by decide) hk0
        have n3 : D 3 = false := hClo.no 3 rfl (k := 2) (by decide) n2
        have n8 : D 8 = false := hClo.no 8 rfl (k := 2) (by decide) n2
        have n4 : D 4 = false := hClo.no 4 rfl (k := 3) (by decide) n3
        have n9 : D 9 = false := hClo.no 9 rfl (k := 8) (by decide) n8
        have n5 : D 5 = false := hClo.no 5 rfl (k := 4) (by decide) n4
        have n10 : D 10 = false := hClo.no 10 rfl (k := 9) (by decide) n9
        have n12 : D 12 = false := hClo.no 12 rfl (k := 5) (by decide) n5
        have n11 : D 11 = false := hClo.no 11 rfl (k := 10) (by decide) n10
        clear hClo hd
        simp only [upd, Act.put, List.setIfInBounds_toArray, List.set_cons_zero, List.set_cons_succ]
        go_wp2_with fail
        refine hK _ _ ⟨b3, x, b4, y, b5, ?_, ?_, ?_, ?_, ?_, ?_, ?_, ?_⟩
        · clear hK
          simp [upd, Act.put, also, *]
        · exact (htap).of_eq (by simp [also, *])
        · exact fun h => (hpl (by simpa [also] using h))
        · exact fun h => (hcl (by simpa [also] using h))
        · exact fun h => by simp [also, *] at h
        · exact fun h => by simp [also, *] at h
        · exact fun h => by simp [also, *] at h
        · exact (hbx).of_eq (by simp [also, *])
      · intro D a w' K hClo hk0 hd hJ hK
        change D 2 = false at hk0
        obtain ⟨b3, x, b4, y, b5, rfl, htap, hpl, hcl, hx, hy, hat, hbx⟩ := hJ
        have e1 : D 1 = true := hd 1 (by decide)
        have n3 : D 3 = false := hClo.no 3 rfl (k := 2) (by decide) hk0
        have n8 : D 8 = false := hClo.no 8 rfl (k := 2) (by decide) hk0
        have n13 : D 13 = false := hClo.no 13 rfl (k := 2) (by decide) hk0
        have n14 : D 14 = false := hClo.no 14 rfl (k := 2) (by decide) hk0
        have n4 : D 4 = false := hClo.no 4 rfl (k := 3) (by decide) n3
        have n9 : D 9 = false := hClo.no 9 rfl (k := 8) (by decide) n8
        have n5 : D 5 = false := hClo.no 5 rfl (k := 4) (by decide) n4
        have n10 : D 10 = false := hClo.no 10 rfl (k := 9) (by decide) n9
        have n12 : D 12 = false := hClo.no 12 rfl (k := 5) (by decide) n5
        have n11 : D 11 = false := hClo.no 11 rfl (k := 10) (by decide) n10
        clear hClo hd
        have ht0 := (show Tap w1 w' B g (j + 2) from htap.of_eq (by simp [hk0, n8]))
        simp only [upd, Act.put, List.setIfInBounds_toArray, List.set_cons_zero, List.set_cons_succ, e1]
        go_wp2_with fail
        with_reducible refine (next_any g _ B 4 _ ht0.tape (by omega) (by omega) (by omega)).mono ?_
        rintro e w2 ⟨z, rfl, z0, z1, ht2, hg2⟩
        obtain ⟨z, rfl⟩ := Int.eq_ofNat_of_zero_le z0
        go_wp2_with fail
        refine hK _ _ ⟨b3, z, b4, y, b5, ?_, ?_, ?_, ?_, ?_, ?_, ?_, ?_⟩
        · clear hK
          simp [upd, Act.put, also, *]
        · exact (ht0.next hg2 ht2).of_eq (by simp [also, *])
        · exact fun h => (hpl (by simpa [also] using h)).grown hg2 ht0.lt
        · exact fun h => (hcl (by simpa [also] using h)).grown hg2 ht0.lt
        · exact fun _ => by omega
        · exact fun h => by simp [also, *] at h
        · exact fun h => by simp [also, *] at h
        · exact (hbx.grown hg2 ht0.lt).of_eq (by simp [also, *])
      · intro D a w' K hClo hk0 hd hJ hK
        change D 3 = false at hk0
        obtain ⟨b3, x, b4, y, b5, rfl, htap, hpl, hcl, hx, hy, hat, hbx⟩ := hJ
        have e0 : D 0 = true := hd 0 (by decide)
        have e2 : D 2 = true := hd 2 (by decide)
        have n4 : D 4 = false := hClo.no 4 rfl (k := 3) (by decide) hk0
        have n13 : D 13 = false := hClo.no 13 rfl (k := 3) (by decide) hk0
        have n14 : D 14 = false := hClo.no 14 rfl (k := 3) (by decide) hk0
        have n5 : D 5 = false := hClo.no 5 rfl (k := 4) (by decide) n4
        have n12 : D 12 = false := hClo.no 12 rfl (k := 5) (by decide) n5
        clear hClo hd
        have hx2 := hx e2
        have hx1 : (x : Int) < 4 := by omega
        simp only [upd, Act.put, List.setIfInBounds_toArray, List.set_cons_zero, List.set_cons_succ, e0, e2]
        go_wp2_with fail
        refine hK _ _ ⟨b3, x, b4, y, b5, ?_, ?_, ?_, ?_, ?_, ?_, ?_, ?_⟩
        · clear hK
          simp [upd, Act.put, also, *]
        · exact (htap).of_eq (by simp [also, *])
        · exact fun h => (hpl (by simpa [also] using h))
        · exact fun h => (hcl (by simpa [also] using h))
        · exact fun h => (hx (by simpa [also] using h))
        · exact fun h => (hy (by simpa [also] using h))
        · exact fun h => by simp [also, *] at h
        · exact (hbx).of_eq (by simp [also, *])
      · intro D a w' K hClo hk0 hd hJ hK
        change D 4 = false at hk0
        obtain ⟨b3, x, b4, y, b5, rfl, htap, hpl, hcl, hx, hy, hat, hbx⟩ := hJ
        have e3 : D 3 = true := hd 3 (by decide)
        have n5 : D 5 = false := hClo.no 5 rfl (k := 4) (by decide) hk0
        have n13 : D 13 = false := hClo.no 13 rfl (k := 4) (by decide) hk0
        have n14 : D 14 = false := hClo.no 14 rfl (k := 4) (by decide) hk0
        have n12 : D 12 = false := hClo.no 12 rfl (k := 5) (by decide) n5
        have q0_3 : D 0 = true := (hClo 3 _ rfl e3 0 (by decide))
        have q2_3 : D 2 = true := (hClo 3 _ rfl e3 2 (by decide))
        clear hClo hd
        have hc : w'.cell? ⟨b3, x, none⟩ = some (.string (powS x)) := by
          have hx2 := hx q2_3
          have := (hpl q0_3).cell x
          rw [this]
          obtain rfl | rfl | rfl | rfl : x = 0 ∨ x = 1 ∨ x = 2 ∨ x = 3 := by omega
          · rfl
          · rfl
          · rfl
          · rfl
        simp only [upd, Act.put, List.setIfInBounds_toArray, List.set_cons_zero, List.set_cons_succ, e3]
        go_wp2_with fail
        refine hK _ _ ⟨b3, x, b4, y, b5, ?_, ?_, ?_, ?_, ?_, ?_, ?_, ?_⟩
        · clear hK
          simp [upd, Act.put, also, *]
        · exact (htap).of_eq (by simp [also, *])
        · exact fun h => (hpl (by simpa [also] using h))
        · exact fun h => (hcl (by simpa [also] using h))
        · exact fun h => (hx (by simpa [also] using h))
        · exact fun h => (hy (by simpa [also] using h))
        · exact fun h => by simp [also, *] at h
        · exact (hbx).of_eq (by simp [also, *])
      · intro D a w' K hClo hk0 hd hJ hK
        change D 5 = false at hk0
        obtain ⟨b3, x, b4, y, b5, rfl, htap, hpl, hcl, hx, hy, hat, hbx⟩ := hJ
        have e4 : D 4 = true := hd 4 (by decide)
        have n12 : D 12 = false := hClo.no 12 rfl (k := 5) (by decide) hk0
        have n13 : D 13 = false := hClo.no 13 rfl (k := 5) (by decide) hk0
        have n14 : D 14 = false := hClo.no 14 rfl (k := 5) (by decide) hk0
        clear hClo hd
        simp only [upd, Act.put, List.setIfInBounds_toArray, List.set_cons_zero, List.set_cons_succ, e4]
        go_wp2_with fail
        refine hK _ _ ⟨b3, x, b4, y, b5, ?_, ?_, ?_, ?_, ?_, ?_, ?_, ?_⟩
        · clear hK
          simp [upd, Act.put, also, *]
          rfl
        · exact (htap).of_eq (by simp [also, *])
        · exact fun h => (hpl (by simpa [also] using h))
        · exact fun h => (hcl (by simpa [also] using h))
        · exact fun h => (hx (by simpa [also] using h))
        · exact fun h => (hy (by simpa [also] using h))
        · exact fun h => by simp [also, *] at h
        · exact (hbx).of_eq (by simp [also, *])
      · intro D a w' K hClo hk0 hd hJ hK
        change D 6 = false at hk0
        obtain ⟨b3, x, b4, y, b5, rfl, htap, hpl, hcl, hx, hy, hat, hbx⟩ := hJ
        have n9 : D 9 = false := hClo.no 9 rfl (k := 6) (by decide) hk0
        have n13 : D 13 = false := hClo.no 13 rfl (k := 6) (by decide) hk0
        have n14 : D 14 = false := hClo.no 14 rfl (k := 6) (by decide) hk0
        have n10 : D 10 = false := hClo.no 10 rfl (k := 9) (by decide) n9
        have n11 : D 11 = false := hClo.no 11 rfl (k := 10) (by decide) n10
        have n12 : D 12 = false := hClo.no 12 rfl (k := 11) (by decide) n11
        clear hClo hd
        simp only [upd, Act.put, List.setIfInBounds_toArray, List.set_cons_zero, List.set_cons_succ]
        go_wp2_with fail
        refine hK _ _ ⟨b3, x, w'.heap.size, y, b5, ?_, ?_, ?_, ?_, ?_, ?_, ?_, ?_⟩
        · clear hK
          simp [upd, Act.put, also, *]
        · exact (htap.alloc _).of_eq (by simp [also, *])
        · exact fun h => (hpl (by simpa [also] using h)).alloc _
        · exact fun _ => Has.new htap.size 9 _
        · exact fun h => (hx (by simpa [also] using h))
        · exact fun h => (hy (by simpa [also] using h))
        · exact fun h => by simp [also, *] at h
        · exact (hbx.alloc _).of_eq (by simp [also, *])
      · intro D a w' K hClo hk0 hd hJ hK
        change D 7 = false at hk0
        obtain ⟨b3, x, b4, y, b5, rfl, htap, hpl, hcl, hx, hy, hat, hbx⟩ := hJ
        have n8 : D 8 = false := hClo.no 8 rfl (k := 7) (by decide) hk0
        have n13 : D 13 = false := hClo.no 13 rfl (k := 7) (by decide) hk0
        have n14 : D 14 = false := hClo.no 14 rfl (k := 7) (by decide) hk0
        have n9 : D 9 = false := hClo.no 9 rfl (k := 8) (by decide) n8
        have n10 : D 10 = false := hClo.no 10 rfl (k := 9) (by decide) n9
        have n11 : D 11 = false := hClo.no 11 rfl (k := 10) (by decide) n10
        have n12 : D 12 = false := hClo.no 12 rfl (k := 11) (by decide) n11
        clear hClo hd
        simp only [upd, Act.put, List.setIfInBounds_toArray, List.set_cons_zero, List.set_cons_succ]
        go_wp2_with fail
        refine hK _ _ ⟨b3, x, b4, y, b5, ?_, ?_, ?_, ?_, ?_, ?_, ?_, ?_⟩
        · clear hK
          simp [upd, Act.put, also, *]
        · exact (htap).of_eq (by simp [also, *])
        · exact fun h => (hpl (by simpa [also] using h))
        · exact fun h => (hcl (by simpa [also] using h))
        · exact fun h => (hx (by simpa [also] using h))
        · exact fun h => by simp [also, *] at h
        · exact fun h => by simp [also, *] at h
        · exact (hbx).of_eq (by simp [also, *])
      · intro D a w' K hClo hk0 hd hJ hK
        change D 8 = false at hk0
        obtain ⟨b3, x, b4, y, b5, rfl, htap, hpl, hcl, hx, hy, hat, hbx⟩ := hJ
        have e2 : D 2 = true := hd 2 (by decide)
        have e7 : D 7 = true := hd 7 (by decide)
        have n9 : D 9 = false := hClo.no 9 rfl (k := 8) (by decide) hk0
        have n13 : D 13 = false := hClo.no 13 rfl (k := 8) (by decide) hk0
        have n14 : D 14 = false := hClo.no 14 rfl (k := 8) (by decide) hk0
        have n10 : D 10 = false := hClo.no 10 rfl (k := 9) (by decide) n9
        have n11 : D 11 = false := hClo.no 11 rfl (k := 10) (by decide) n10
        have n12 : D 12 = false := hClo.no 12 rfl (k := 11) (by decide) n11
        clear hClo hd
        have ht0 := (show Tap w1 w' B g (j + 2 + 1) from htap.of_eq (by simp [hk0, e2]))
        simp only [upd, Act.put, List.setIfInBounds_toArray, List.set_cons_zero, List.set_cons_succ, e2, e7]
        go_wp2_with fail
        with_reducible refine (next_any g _ B 3 _ ht0.tape (by omega) (by omega) (by omega)).mono ?_
        rintro e w2 ⟨z, rfl, z0, z1, ht2, hg2⟩
        obtain ⟨z, rfl⟩ := Int.eq_ofNat_of_zero_le z0
        go_wp2_with fail
        refine hK _ _ ⟨b3, x, b4, z, b5, ?_, ?_, ?_, ?_, ?_, ?_, ?_, ?_⟩
        · clear hK
          simp [upd, Act.put, also, *]
        · exact (ht0.next hg2 ht2).of_eq (by simp [also, *])
        · exact fun h => (hpl (by simpa [also] using h)).grown hg2 ht0.lt
        · exact fun h => (hcl (by simpa [also] using h)).grown hg2 ht0.lt
        · exact fun h => (hx (by simpa [also] using h))
        · exact fun _ => by omega
        · exact fun h => by simp [also, *] at h
        · exact (hbx.grown hg2 ht0.lt).of_eq (by simp [also, *])
      · intro D a w' K hClo hk0 hd hJ hK
        change D 9 = false at hk0
        obtain ⟨b3, x, b4, y, b5, rfl, htap, hpl, hcl, hx, hy, hat, hbx⟩ := hJ
        have e6 : D 6 = true := hd 6 (by decide)
        have e8 : D 8 = true := hd 8 (by decide)
        have n10 : D 10 = false := hClo.no 10 rfl (k := 9) (by decide) hk0
        have n13 : D 13 = false := hClo.no 13 rfl (k := 9) (by decide) hk0
        have n14 : D 14 = false := hClo.no 14 rfl (k := 9) (by decide) hk0
        have n11 : D 11 = false := hClo.no 11 rfl (k := 10) (by decide) n10
        have n12 : D 12 = false := hClo.no 12 rfl (k := 11) (by decide) n11
        clear hClo hd
        have hx2 := hy e8
        have hx1 : (y : Int) < 3 := by omega
        simp only [upd, Act.put, List.setIfInBounds_toArray, List.set_cons_zero, List.set_cons_succ, e6, e8]
        go_wp2_with fail
        refine hK _ _ ⟨b3, x, b4, y, b5, ?_, ?_, ?_, ?_, ?_, ?_, ?_, ?_⟩
        · clear hK
          simp [upd, Act.put, also, *]
        · exact (htap).of_eq (by simp [also, *])
        · exact fun h => (hpl (by simpa [also] using h))
        · exact fun h => (hcl (by simpa [also] using h))
        · exact fun h => (hx (by simpa [also] using h))
        · exact fun h => (hy (by simpa [also] using h))
        · exact fun h => by simp [also, *] at h
        · exact (hbx).of_eq (by simp [also, *])
      · intro D a w' K hClo hk0 hd hJ hK
        change D 10 = false at hk0
        obtain ⟨b3, x, b4, y, b5, rfl, htap, hpl, hcl, hx, hy, hat, hbx⟩ := hJ
        have e9 : D 9 = true := hd 9 (by decide)
        have n11 : D 11 = false := hClo.no 11 rfl (k := 10) (by decide) hk0
        have n13 : D 13 = false := hClo.no 13 rfl (k := 10) (by decide) hk0
        have n14 : D 14 = false := hClo.no 14 rfl (k := 10) (by decide) hk0
        have n12 : D 12 = false := hClo.no 12 rfl (k := 11) (by decide) n11
        have q6_9 : D 6 = true := (hClo 9 _ rfl e9 6 (by decide))
        have q8_9 : D 8 = true := (hClo 9 _ rfl e9 8 (by decide))
        clear hClo hd
        have hc : w'.cell? ⟨b4, y, none⟩ = some (.string (colS y)) := by
          have hx2 := hy q8_9
          have := (hcl q6_9).cell y
          rw [this]
          obtain rfl | rfl | rfl : y = 0 ∨ y = 1 ∨ y = 2 := by omega
          · rfl
          · rfl
          · rfl
        simp only [upd, Act.put, List.setIfInBounds_toArray, List.set_cons_zero, List.set_cons_succ, e9]
        go_wp2_with fail
        refine hK _ _ ⟨b3, x, b4, y, b5, ?_, ?_, ?_, ?_, ?_, ?_, ?_, ?_⟩
        · clear hK
          simp [upd, Act.put, also, *]
        · exact (htap).of_eq (by simp [also, *])
        · exact fun h => (hpl (by simpa [also] using h))
        · exact fun h => (hcl (by simpa [also] using h))
        · exact fun h => (hx (by simpa [also] using h))
        · exact fun h => (hy (by simpa [also] using h))
        · exact fun h => by simp [also, *] at h
        · exact (hbx).of_eq (by simp [also, *])
      · intro D a w' K hClo hk0 hd hJ hK
        change D 11 = false at hk0
        obtain ⟨b3, x, b4, y, b5, rfl, htap, hpl, hcl, hx, hy, hat, hbx⟩ := hJ
        have e10 : D 10 = true := hd 10 (by decide)
        have n12 : D 12 = false := hClo.no 12 rfl (k := 11) (by decide) hk0
        have n13 : D 13 = false := hClo.no 13 rfl (k := 11) (by decide) hk0
        have n14 : D 14 = false := hClo.no 14 rfl (k := 11) (by decide) hk0
        clear hClo hd
        simp only [upd, Act.put, List.setIfInBounds_toArray, List.set_cons_zero, List.set_cons_succ, e10]
        go_wp2_with fail
        refine hK _ _ ⟨b3, x, b4, y, b5, ?_, ?_, ?_, ?_, ?_, ?_, ?_, ?_⟩
        · clear hK
          simp [upd, Act.put, also, *]
          rfl
        · exact (htap).of_eq (by simp [also, *])
        · exact fun h => (hpl (by simpa [also] using h))
        · exact fun h => (hcl (by simpa [also] using h))
        · exact fun h => (hx (by simpa [also] using h))
        · exact fun h => (hy (by simpa [also] using h))
        · exact fun h => by simp [also, *] at h
        · exact (hbx).of_eq (by simp [also, *])
      · intro D a w' K hClo hk0 hd hJ hK
        change D 12 = false at hk0
        obtain ⟨b3, x, b4, y, b5, rfl, htap, hpl, hcl, hx, hy, hat, hbx⟩ := hJ
        have e5 : D 5 = true := hd 5 (by decide)
        have e11 : D 11 = true := hd 11 (by decide)
        have n13 : D 13 = false := hClo.no 13 rfl (k := 12) (by decide) hk0
        have n14 : D 14 = false := hClo.no 14 rfl (k := 12) (by decide) hk0
        clear hClo hd
        simp only [upd, Act.put, List.setIfInBounds_toArray, List.set_cons_zero, List.set_cons_succ, e5, e11]
        go_wp2_with fail
        refine hK _ _ ⟨b3, x, b4, y, w'.heap.size, ?_, ?_, ?_, ?_, ?_, ?_, ?_, ?_⟩
        · clear hK
          simp [upd, Act.put, also, *]
        · exact (htap.alloc _).of_eq (by simp [also, *])
        · exact fun h => (hpl (by simpa [also] using h)).alloc _
        · exact fun h => (hcl (by simpa [also] using h)).alloc _
        · exact fun h => (hx (by simpa [also] using h))
        · exact fun h => (hy (by simpa [also] using h))
        · exact fun _ => Has.new htap.size 57 _
        · exact (hbx.alloc _).of_eq (by simp [also, *])
      · intro D a w' K hClo hk0 hd hJ hK
        change D 13 = false at hk0
        obtain ⟨b3, x, b4, y, b5, rfl, htap, hpl, hcl, hx, hy, hat, hbx⟩ := hJ
        have e0 : D 0 = true := hd 0 (by decide)
        have e1 : D 1 = true := hd 1 (by decide)
        have e2 : D 2 = true := hd 2 (by decide)
        have e3 : D 3 = true := hd 3 (by decide)
        have e4 : D 4 = true := hd 4 (by decide)
        have e5 : D 5 = true := hd 5 (by decide)
        have e6 : D 6 = true := hd 6 (by decide)
        have e7 : D 7 = true := hd 7 (by decide)
        have e8 : D 8 = true := hd 8 (by decide)
        have e9 : D 9 = true := hd 9 (by decide)
        have e10 : D 10 = true := hd 10 (by decide)
        have e11 : D 11 = true := hd 11 (by decide)
        have e12 : D 12 = true := hd 12 (by decide)
        have n14 : D 14 = false := hClo.no 14 rfl (k := 13) (by decide) hk0
        clear hClo hd
        simp only [upd, Act.put, List.setIfInBounds_toArray, List.set_cons_zero, List.set_cons_succ, e0, e1, e2, e3, e4, e5, e6, e7, e8, e9, e10, e11, e12]
        go_wp2_with fail
        refine hK _ _ ⟨b3, x, b4, y, b5, ?_, ?_, ?_, ?_, ?_, ?_, ?_, ?_⟩
        · clear hK
          simp [upd, Act.put, also, *]
        · exact (htap).of_eq (by simp [also, *])
        · exact fun h => (hpl (by simpa [also] using h))
        · exact fun h => (hcl (by simpa [also] using h))
        · exact fun h => (hx (by simpa [also] using h))
        · exact fun h => (hy (by simpa [also] using h))
        · exact fun h => (hat (by simpa [also] using h))
        · exact (hbx).of_eq (by simp [also, *])
      · intro D a w' K hClo hk0 hd hJ hK
        change D 14 = false at hk0
        obtain ⟨b3, x, b4, y, b5, rfl, htap, hpl, hcl, hx, hy, hat, hbx⟩ := hJ
        have e0 : D 0 = true := hd 0 (by decide)
        have e1 : D 1 = true := hd 1 (by decide)
        have e2 : D 2 = true := hd 2 (by decide)
        have e3 : D 3 = true := hd 3 (by decide)
        have e4 : D 4 = true := hd 4 (by decide)
        have e5 : D 5 = true := hd 5 (by decide)
        have e6 : D 6 = true := hd 6 (by decide)
        have e7 : D 7 = true := hd 7 (by decide)
        have e8 : D 8 = true := hd 8 (by decide)
        have e9 : D 9 = true := hd 9 (by decide)
        have e10 : D 10 = true := hd 10 (by decide)
        have e11 : D 11 = true := hd 11 (by decide)
        have e12 : D 12 = true := hd 12 (by decide)
        have e13 : D 13 = true := hd 13 (by decide)
        clear hClo hd
        have hbx1 : Has w1 w' b2 50 #[.string (idS k), .string (codeS u), .string ⟨#[97, 99, 109, 101]⟩, .int .i64 1, .int .i64 1, .int .i64 (400000 + 50000 * (v : Int)), .slice none 0 0] := hbx.of_eq (by rw [hk0]; rfl)
        have hge := hbx1.ge
        have hne3 : b2 ≠ b3 := hbx1.blk.ne_ (hpl e0).blk (by decide)
        have hne4 : b2 ≠ b4 := hbx1.blk.ne_ (hcl e6).blk (by decide)
        have hne5 : b2 ≠ b5 := hbx1.blk.ne_ (hat e12).blk (by decide)
        have c6 := hbx1.cell 6
        have f6 := hbx1.frozen 6
        simp only [List.getElem?_toArray, List.getElem?_cons_zero, List.getElem?_cons_succ] at c6
        have Hbx := hide hbx1
        clear hbx1 hbx
        simp only [upd, Act.put, List.setIfInBounds_toArray, List.set_cons_zero, List.set_cons_succ, e0, e1, e2, e3, e4, e5, e6, e7, e8, e9, e10, e11, e12, e13]
        go_wp2_with fail
        refine hK _ _ ⟨b3, x, b4, y, b5, ?_, ?_, ?_, ?_, ?_, ?_, ?_, ?_⟩
        · clear hK
          simp [upd, Act.put, also, *]
        · exact (htap.far hge _).of_eq (by simp [also, *])
        · exact fun _ => (hpl e0).far hne3 _
        · exact fun _ => (hcl e6).far hne4 _
        · exact fun h => (hx (by simpa [also] using h))
        · exact fun h => (hy (by simpa [also] using h))
        · exact fun _ => (hat e12).far hne5 _
        · exact (Hbx.out.set_ 6 _).of_eq (by simp [also])
    · intro D a' wb hall hJ
      obtain ⟨b3, x, b4, y, b5, rfl, htap, hpl, hcl, hx, hy, hat, hbx⟩ := hJ
      have e0 : D 0 = true := hall 0 (by decide)
      have e1 : D 1 = true := hall 1 (by decide)
      have e2 : D 2 = true := hall 2 (by decide)
      have e3 : D 3 = true := hall 3 (by decide)
      have e4 : D 4 = true := hall 4 (by decide)
      have e5 : D 5 = true := hall 5 (by decide)
      have e6 : D 6 = true := hall 6 (by decide)
      have e7 : D 7 = true := hall 7 (by decide)
      have e8 : D 8 = true := hall 8 (by decide)
      have e9 : D 9 = true := hall 9 (by decide)
      have e10 : D 10 = true := hall 10 (by decide)
      have e11 : D 11 = true := hall 11 (by decide)
      have e12 : D 12 = true := hall 12 (by decide)
      have e13 : D 13 = true := hall 13 (by decide)
      have e14 : D 14 = true := hall 14 (by decide)
      clear hall
      replace htap : Tap w1 wb B g (j + 4) := htap.of_eq (by simp [*])
      replace hpl := hpl e0
      replace hcl := hcl e6
      replace hx := hx e2
      replace hy := hy e8
      replace hat := hat e12
      replace hbx : Has w1 wb b2 50 #[.string (idS k), .string (codeS u), .string ⟨#[97, 99, 109, 101]⟩, .int .i64 1, .int .i64 1, .int .i64 (400000 + 50000 * (v : Int)), .slice (some ⟨b5, 0, none⟩) 2 2] := hbx.of_eq (by simp [*])
      simp only [upd, Act.put, List.setIfInBounds_toArray, List.set_cons_zero, List.set_cons_succ, sel_true, e0, e1, e2, e3, e4, e5, e6, e7, e8, e9, e10, e11, e12, e13]
      clear e0 e1 e2 e3 e4 e5 e6 e7 e8 e9 e10 e11 e12 e13 e14
      go_wp2_with fail
      with_reducible refine (next_any g _ B 2 _ htap.tape (by omega) (by omega) (by omega)).mono ?_
      rintro e wc ⟨z, rfl, z0, z1, ht5, hg5⟩
      replace htap := htap.next hg5 ht5
      replace hat := hat.grown hg5 htap.lt
      replace hbx := hbx.grown hg5 htap.lt
      by_cases hz : z = 0
      · subst hz
        go_upto_region 4 with (fail)
        refine wp_region_each (fun a0 D a w => a = upd a0 [(36, sel (D 0) (.pointer (some ⟨b2, 6, none⟩)) undef), (37, sel (D 1) (.slice (some ⟨b5, 0, none⟩) 2 2) undef), (38, sel (D 2) (.pointer (some ⟨b2, 6, none⟩)) undef), (39, sel (D 3) (.slice (some ⟨b5, 0, none⟩) 2 2) undef), (40, sel (D 4) (.pointer (some ⟨b2, 6, none⟩)) undef), (41, sel (D 5) (.slice (some ⟨b5, 0, none⟩) 2 2) undef), (42, sel (D 6) (.pointer (some ⟨b5, 2, none⟩)) undef), (43, sel (D 7) (.agg #[.string colN, .string (colS y)]) undef), (44, sel (D 8) (.pointer (some ⟨b2, 6, none⟩)) undef), (45, sel (D 9) (.slice (some ⟨b5, 0, none⟩) 2 2) undef), (46, sel (D 10) (.pointer (some ⟨b5, 0, none⟩)) undef), (47, sel (D 11) (.agg #[.string powN, .string (powS x)]) undef), (48, sel (D 12) (.pointer (some ⟨b5, 0, none⟩)) undef), (49, sel (D 14) (.pointer (some ⟨b5, 2, none⟩)) undef)] ∧ (Tap w1 w B g (j + 5)) ∧ (Has w1 w b2 50 #[.string (idS k), .string (codeS u), .string ⟨#[97, 99, 109, 101]⟩, .int .i64 1, .int .i64 1, .int .i64 (400000 + 50000 * (v : Int)), .slice (some ⟨b5, 0, none⟩) 2 2]) ∧ (Has w1 w b5 57 (bif D 15 then #[.string colN, .string (colS y), .string powN, .string (powS x)] else bif D 13 then #[.string colN, .string (colS y), .string colN, .string (colS y)] else #[.string powN, .string (powS x), .string colN, .string (colS y)]))) (by kernel_rfl) (by kernel_rfl) ?_ ?_ ?_
        · refine ⟨?_, htap.drew, hbx.drew, hat.drew⟩
          simp [upd, Act.put]
        · refine ⟨?_, ?_, ?_, ?_, ?_, ?_, ?_, ?_, ?_, ?_, ?_, ?_, ?_, ?_, ?_, ?_, trivial⟩
          · intro D a w' K hClo hk0 hd hJ hK
            change D 0 = false at hk0
            obtain ⟨rfl, htap, hbx, hat⟩ := hJ
            have n1 : D 1 = false := hClo.no 1 rfl (k := 0) (by decide) hk0
            have n12 : D 12 = false := hClo.no 12 rfl (k := 0) (by decide) hk0
            have n13 : D 13 = false := hClo.no 13 rfl (k := 0) (by decide) hk0
            have n14 : D 14 = false := hClo.no 14 rfl (k := 0) (by decide) hk0
            have n15 : D 15 = false := hClo.no 15 rfl (k := 0) (by decide) hk0
            clear hClo hd
            simp only [upd, Act.put, List.setIfInBounds_toArray, List.set_cons_zero, List.set_cons_succ]
            go_wp2_with fail
            refine hK _ _ ⟨?_, ?_, ?_, ?_⟩
            · clear hK
              simp [upd, Act.put, also, *]
            · exact htap
            · exact hbx
            · exact (hat).of_eq (by simp [also, *])
          · intro D a w' K hClo hk0 hd hJ hK
            change D 1 = false at hk0
            obtain ⟨rfl, htap, hbx, hat⟩ := hJ
            have e0 : D 0 = true := hd 0 (by decide)
            have n12 : D 12 = false := hClo.no 12 rfl (k := 1) (by decide) hk0
            have n13 : D 13 = false := hClo.no 13 rfl (k := 1) (by decide) hk0
            have n14 : D 14 = false := hClo.no 14 rfl (k := 1) (by decide) hk0
            have n15 : D 15 = false := hClo.no 15 rfl (k := 1) (by decide) hk0
            clear hClo hd
            have c6 := hbx.cell 6
            simp only [List.getElem?_toArray, List.getElem?_cons_zero, List.getElem?_cons_succ] at c6
            simp only [upd, Act.put, List.setIfInBounds_toArray, List.set_cons_zero, List.set_cons_succ, e0]
            go_wp2_with fail
            refine hK _ _ ⟨?_, ?_, ?_, ?_⟩
            · clear hK
              simp [upd, Act.put, also, *]
            · exact htap
            · exact hbx
            · exact (hat).of_eq (by simp [also, *])
          · intro D a w' K hClo hk0 hd hJ hK
            change D 2 = false at hk0
            obtain ⟨rfl, htap, hbx, hat⟩ := hJ
            have n3 : D 3 = false := hClo.no 3 rfl (k := 2) (by decide) hk0
            have n14 : D 14 = false := hClo.no 14 rfl (k := 2) (by decide) hk0
            have n15 : D 15 = false := hClo.no 15 rfl (k := 2) (by decide) hk0
            clear hClo hd
            simp only [upd, Act.put, List.setIfInBounds_toArray, List.set_cons_zero, List.set_cons_succ]
            go_wp2_with fail
            refine hK _ _ ⟨?_, ?_, ?_, ?_⟩
            · clear hK
              simp [upd, Act.put, also, *]
            · exact htap
            · exact hbx
            · exact (hat).of_eq (by simp [also, *])
          · intro D a w' K hClo hk0 hd hJ hK
            change D 3 = false at hk0
            obtain ⟨rfl, htap, hbx, hat⟩ := hJ
            have e2 : D 2 = true := hd 2 (by decide)
            have n14 : D 14 = false := hClo.no 14 rfl (k := 3) (by decide) hk0
            have n15 : D 15 = false := hClo.no 15 rfl (k := 3) (by decide) hk0
            clear hClo hd
            have c6 := hbx.cell 6
            simp only [List.getElem?_toArray, List.getElem?_cons_zero, List.getElem?_cons_succ] at c6
            simp only [upd, Act.put, List.setIfInBounds_toArray, List.set_cons_zero, List.set_cons_succ, e2]
            go_wp2_with fail
            refine hK _ _ ⟨?_, ?_, ?_, ?_⟩
            · clear hK
              simp [upd, Act.put, also, *]
            · exact htap
            · exact hbx
            · exact (hat).of_eq (by simp [also, *])
          · intro D a w' K hClo hk0 hd hJ hK
            change D 4 = false at hk0
            obtain ⟨rfl, htap, hbx, hat⟩ := hJ
            have n5 : D 5 = false := hClo.no 5 rfl (k := 4) (by decide) hk0
            have n12 : D 12 = false := hClo.no 12 rfl (k := 4) (by decide) hk0
            have n13 : D 13 = false := hClo.no 13 rfl (k := 4) (by decide) hk0
            have n14 : D 14 = false := hClo.no 14 rfl (k := 4) (by decide) hk0
            have n15 : D 15 = false := hClo.no 15 rfl (k := 4) (by decide) hk0
            have n6 : D 6 = false := hClo.no 6 rfl (k := 5) (by decide) n5
            have n7 : D 7 = false := hClo.no 7 rfl (k := 6) (by decide) n6
            clear hClo hd
            simp only [upd, Act.put, List.setIfInBounds_toArray, List.set_cons_zero, List.set_cons_succ]
            go_wp2_with fail
            refine hK _ _ ⟨?_, ?_, ?_, ?_⟩
            · clear hK
              simp [upd, Act.put, also, *]
            · exact htap
            · exact hbx
            · exact (hat).of_eq (by simp [also, *])
          · intro D a w' K hClo hk0 hd hJ hK
            change D 5 = false at hk0
            obtain ⟨rfl, htap, hbx, hat⟩ := hJ
            have e4 : D 4 = true := hd 4 (by decide)
            have n6 : D 6 = false := hClo.no 6 rfl (k := 5) (by decide) hk0
            have n12 : D 12 = false := hClo.no 12 rfl (k := 5) (by decide) hk0
            have n13 : D 13 = false := hClo.no 13 rfl (k := 5) (by decide) hk0
            have n14 : D 14 = false := hClo.no 14 rfl (k := 5) (by decide) hk0
            have n15 : D 15 = false := hClo.no 15 rfl (k := 5) (by decide) hk0
            have n7 : D 7 = false := hClo.no 7 rfl (k := 6) (by decide) n6
            clear hClo hd
            have c6 := hbx.cell 6
            simp only [List.getElem?_toArray, List.getElem?_cons_zero, List.getElem?_cons_succ] at c6
            simp only [upd, Act.put, List.setIfInBounds_toArray, List.set_cons_zero, List.set_cons_succ, e4]
            go_wp2_with fail
            refine hK _ _ ⟨?_, ?_, ?_, ?_⟩
            · clear hK
              simp [upd, Act.put, also, *]
            · exact htap
            · exact hbx
            · exact (hat).of_eq (by simp [also, *])
          · intro D a w' K hClo hk0 hd hJ hK
            change D 6 = false at hk0
            obtain ⟨rfl, htap, hbx, hat⟩ := hJ
            have e5 : D 5 = true := hd 5 (by decide)
            have n7 : D 7 = false := hClo.no 7 rfl (k := 6) (by decide) hk0
            have n12 : D 12 = false := hClo.no 12 rfl (k := 6) (by decide) hk0
            have n13 : D 13 = false := hClo.no 13 rfl (k := 6) (by decide) hk0
            have n14 : D 14 = false := hClo.no 14 rfl (k := 6) (by decide) hk0
            have n15 : D 15 = false := hClo.no 15 rfl (k := 6) (by decide) hk0
            clear hClo hd
            simp only [upd, Act.put, List.setIfInBounds_toArray, List.set_cons_zero, List.set_cons_succ, e5]
            go_wp2_with fail
            refine hK _ _ ⟨?_, ?_, ?_, ?_⟩
            · clear hK
              simp [upd, Act.put, also, *]
            · exact htap
            · exact hbx
            · exact (hat).of_eq (by simp [also, *])
          · intro D a w' K hClo hk0 hd hJ hK
            change D 7 = false at hk0
            obtain ⟨rfl, htap, hbx, hat⟩ := hJ
            have e6 : D 6 = true := hd 6 (by decide)
            have n12 : D 12 = false := hClo.no 12 rfl (k := 7) (by decide) hk0
            have n13 : D 13 = false := hClo.no 13 rfl (k := 7) (by decide) hk0
            have n14 : D 14 = false := hClo.no 14 rfl (k := 7) (by decide) hk0
            have n15 : D 15 = false := hClo.no 15 rfl (k := 7) (by decide) hk0
            clear hClo hd
            have hat1 : Has w1 w' b5 57 #[.string powN, .string (powS x), .string colN, .string (colS y)] := hat.of_eq (by rw [n13, n15]; rfl)
            have c0 := hat1.cell 2
            have c1 := hat1.cell 3
            simp only [List.getElem?_toArray, List.getElem?_cons_zero, List.getElem?_cons_succ] at c0 c1
            simp only [upd, Act.put, List.setIfInBounds_toArray, List.set_cons_zero, List.set_cons_succ, e6]
            go_wp2_with fail
            refine hK _ _ ⟨?_, ?_, ?_, ?_⟩
            · clear hK
              simp [upd, Act.put, also, *]
            · exact htap
            · exact hbx
            · exact (hat).of_eq (by simp [also, *])
          · intro D a w' K hClo hk0 hd hJ hK
            change D 8 = false at hk0
            obtain ⟨rfl, htap, hbx, hat⟩ := hJ
            have n9 : D 9 = false := hClo.no 9 rfl (k := 8) (by decide) hk0
            have n14 : D 14 = false := hClo.no 14 rfl (k := 8) (by decide) hk0
            have n15 : D 15 = false := hClo.no 15 rfl (k := 8) (by decide) hk0
            have n10 : D 10 = false := hClo.no 10 rfl (k := 9) (by decide) n9
            have n11 : D 11 = false := hClo.no 11 rfl (k := 10) (by decide) n10
            have n12 : D 12 = false := hClo.no 12 rfl (k := 11) (by decide) n11
            have n13 : D 13 = false := hClo.no 13 rfl (k := 11) (by decide) n11
            clear hClo hd
            simp only [upd, Act.put, List.setIfInBounds_toArray, List.set_cons_zero, List.set_cons_succ]
            go_wp2_with fail
            refine hK _ _ ⟨?_, ?_, ?_, ?_⟩
            · clear hK
              simp [upd, Act.put, also, *]
            · exact htap
            · exact hbx
            · exact (hat).of_eq (by simp [also, *])
          · intro D a w' K hClo hk0 hd hJ hK
            change D 9 = false at hk0
            obtain ⟨rfl, htap, hbx, hat⟩ := hJ
            have e8 : D 8 = true := hd 8 (by decide)
            have n10 : D 10 = false := hClo.no 10 rfl (k := 9) (by decide) hk0
            have n14 : D 14 = false := hClo.no 14 rfl (k := 9) (by decide) hk0
            have n15 : D 15 = false := hClo.no 15 rfl (k := 9) (by decide) hk0
            have n11 : D 11 = false := hClo.no 11 rfl (k := 10) (by decide) n10
            have n12 : D 12 = false := hClo.no 12 rfl (k := 11) (by decide) n11
            have n13 : D 13 = false := hClo.no 13 rfl (k := 11) (by decide) n11
            clear hClo hd
            have c6 := hbx.cell 6
            simp only [List.getElem?_toArray, List.getElem?_cons_zero, List.getElem?_cons_succ] at c6
            simp only [upd, Act.put, List.setIfInBounds_toArray, List.set_cons_zero, List.set_cons_succ, e8]
            go_wp2_with fail
            refine hK _ _ ⟨?_, ?_, ?_, ?_⟩
            · clear hK
              simp [upd, Act.put, also, *]
            · exact htap
            · exact hbx
            · exact (hat).of_eq (by simp [also, *])
          · intro D a w' K hClo hk0 hd hJ hK
            change D 10 = false at hk0
            obtain ⟨rfl, htap, hbx, hat⟩ := hJ
            have e9 : D 9 = true := hd 9 (by decide)
            have n11 : D 11 = false := hClo.no 11 rfl (k := 10) (by decide) hk0
            have n14 : D 14 = false := hClo.no 14 rfl (k := 10) (by decide) hk0
            have n15 : D 15 = false := hClo.no 15 rfl (k := 10) (by decide) hk0
            have n12 : D 12 = false := hClo.no 12 rfl (k := 11) (by decide) n11
            have n13 : D 13 = false := hClo.no 13 rfl (k := 11) (by decide) n11
            clear hClo hd
            simp only [upd, Act.put, List.setIfInBounds_toArray, List.set_cons_zero, List.set_cons_succ, e9]
            go_wp2_with fail
            refine hK _ _ ⟨?_, ?_, ?_, ?_⟩
            · clear hK
              simp [upd, Act.put, also, *]
            · exact htap
            · exact hbx
            · exact (hat).of_eq (by simp [also, *])
          · intro D a w' K hClo hk0 hd hJ hK
            change D 11 = false at hk0
            obtain ⟨rfl, htap, hbx, hat⟩ := hJ
            have e10 : D 10 = true := hd 10 (by decide)
            have n12 : D 12 = false := hClo.no 12 rfl (k := 11) (by decide) hk0
            have n13 : D 13 = false := hClo.no 13 rfl (k := 11) (by decide) hk0
            have n14 : D 14 = false := hClo.no 14 rfl (k := 11) (by decide) hk0
            have n15 : D 15 = false := hClo.no 15 rfl (k := 11) (by decide) hk0
            clear hClo hd
            have hat1 : Has w1 w' b5 57 #[.string powN, .string (powS x), .string colN, .string (colS y)] := hat.of_eq (by rw [n13, n15]; rfl)
            have c0 := hat1.cell 0
            have c1 := hat1.cell 1
            simp only [List.getElem?_toArray, List.getElem?_cons_zero, List.getElem?_cons_succ] at c0 c1
            simp only [upd, Act.put, List.setIfInBounds_toArray, List.set_cons_zero, List.set_cons_succ, e10]
            go_wp2_with fail
            refine hK _ _ ⟨?_, ?_, ?_, ?_⟩
            · clear hK
              simp [upd, Act.put, also, *]
            · exact htap
            · exact hbx
            · exact (hat).of_eq (by simp [also, *])
          · intro D a w' K hClo hk0 hd hJ hK
            change D 12 = false at hk0
            obtain ⟨rfl, htap, hbx, hat⟩ := hJ
            have e0 : D 0 = true := hd 0 (by decide)
            have e1 : D 1 = true := hd 1 (by decide)
            have e4 : D 4 = true := hd 4 (by decide)
            have e5 : D 5 = true := hd 5 (by decide)
            have e6 : D 6 = true := hd 6 (by decide)
            have e7 : D 7 = true := hd 7 (by decide)
            have e11 : D 11 = true := hd 11 (by decide)
            have n13 : D 13 = false := hClo.no 13 rfl (k := 12) (by decide) hk0
            have n14 : D 14 = false := hClo.no 14 rfl (k := 12) (by decide) hk0
            have n15 : D 15 = false := hClo.no 15 rfl (k := 12) (by decide) hk0
            clear hClo hd
            simp only [upd, Act.put, List.setIfInBounds_toArray, List.set_cons_zero, List.set_cons_succ, e0, e1, e4, e5, e6, e7, e11]
            go_wp2_with fail
            refine hK _ _ ⟨?_, ?_, ?_, ?_⟩
            · clear hK
              simp [upd, Act.put, also, *]
            · exact htap
            · exact hbx
            · exact (hat).of_eq (by simp [also, *])
          · intro D a w' K hClo hk0 hd hJ hK
            change D 13 = false at hk0
            obtain ⟨rfl, htap, hbx, hat⟩ := hJ
            have e0 : D 0 = true := hd 0 (by decide)
            have e1 : D 1 = true := hd 1 (by decide)
            have e4 : D 4 = true := hd 4 (by decide)
            have e5 : D 5 = true := hd 5 (by decide)
            have e6 : D 6 = true := hd 6 (by decide)
            have e7 : D 7 = true := hd 7 (by decide)
            have e11 : D 11 = true := hd 11 (by decide)
            have e12 : D 12 = true := hd 12 (by decide)
            have n14 : D 14 = false := hClo.no 14 rfl (k := 13) (by decide) hk0
            have n15 : D 15 = false := hClo.no 15 rfl (k := 13) (by decide) hk0
            clear hClo hd
            have hat1 : Has w1 w' b5 57 #[.string powN, .string (powS x), .string colN, .string (colS y)] := hat.of_eq (by rw [hk0, n15]; rfl)
            have hge := hat1.ge
            have hne : b5 ≠ b2 := hat1.blk.ne_ hbx.blk (by decide)
            have c0 := hat1.cell 0
            have c1 := hat1.cell 1
            have f0 := hat1.frozen 0
            have f1 := hat1.frozen 1
            simp only [List.getElem?_toArray, List.getElem?_cons_zero, List.getElem?_cons_succ] at c0 c1
            have Hat := hide hat1
            clear hat1 hat
            simp only [upd, Act.put, List.setIfInBounds_toArray, List.set_cons_zero, List.set_cons_succ, e0, e1, e4, e5, e6, e7, e11, e12]
            go_wp2_with fail
            refine hK _ _ ⟨?_, ?_, ?_, ?_⟩
            · clear hK
              simp [upd, Act.put, also, *]
            · exact (htap.far hge _).far hge _
            · exact (hbx.far hne _).far hne _
            · exact ((Hat.out.set_ 0 _).set_ 1 _).of_eq (by simp [also, *])
          · intro D a w' K hClo hk0 hd hJ hK
            change D 14 = false at hk0
            obtain ⟨rfl, htap, hbx, hat⟩ := hJ
            have e0 : D 0 = true := hd 0 (by decide)
            have e1 : D 1 = true := hd 1 (by decide)
            have e2 : D 2 = true := hd 2 (by decide)
            have e3 : D 3 = true := hd 3 (by decide)
            have e4 : D 4 = true := hd 4 (by decide)
            have e5 : D 5 = true := hd 5 (by decide)
            have e6 : D 6 = true := hd 6 (by decide)
            have e7 : D 7 = true := hd 7 (by decide)
            have e8 : D 8 = true := hd 8 (by decide)
            have e9 : D 9 = true := hd 9 (by decide)
            have e10 : D 10 = true := hd 10 (by decide)
            have e11 : D 11 = true := hd 11 (by decide)
            have e12 : D 12 = true := hd 12 (by decide)
            have e13 : D 13 = true := hd 13 (by decide)
            have n15 : D 15 = false := hClo.no 15 rfl (k := 14) (by decide) hk0
            clear hClo hd
            simp only [upd, Act.put, List.setIfInBounds_toArray, List.set_cons_zero, List.set_cons_succ, e0, e1, e2, e3, e4, e5, e6, e7, e8, e9, e10, e11, e12]
            go_wp2_with fail
            refine hK _ _ ⟨?_, ?_, ?_, ?_⟩
            · clear hK
              simp [upd, Act.put, also, *]
            · exact htap
            · exact hbx
            · exact (hat).of_eq (by simp [also, *])
          · intro D a w' K hClo hk0 hd hJ hK
            change D 15 = false at hk0
            obtain ⟨rfl, htap, hbx, hat⟩ := hJ
            have e0 : D 0 = true := hd 0 (by decide)
            have e1 : D 1 = true := hd 1 (by decide)
            have e2 : D 2 = true := hd 2 (by decide)
            have e3 : D 3 = true := hd 3 (by decide)
            have e4 : D 4 = true := hd 4 (by decide)
            have e5 : D 5 = true := hd 5 (by decide)
            have e6 : D 6 = true := hd 6 (by decide)
            have e7 : D 7 = true := hd 7 (by decide)
            have e8 : D 8 = true := hd 8 (by decide)
            have e9 : D 9 = true := hd 9 (by decide)
            have e10 : D 10 = true := hd 10 (by decide)
            have e11 : D 11 = true := hd 11 (by decide)
            have e12 : D 12 = true := hd 12 (by decide)
            have e13 : D 13 = true := hd 13 (by decide)
            have e14 : D 14 = true := hd 14 (by decide)
            clear hClo hd
            have hat1 : Has w1 w' b5 57 #[.string colN, .string (colS y), .string colN, .string (colS y)] := hat.of_eq (by rw [hk0, e13]; rfl)
            have hge := hat1.ge
            have hne : b5 ≠ b2 := hat1.blk.ne_ hbx.blk (by decide)
            have c0 := hat1.cell 2
            have c1 := hat1.cell 3
            have f0 := hat1.frozen 2
            have f1 := hat1.frozen 3
            simp only [List.getElem?_toArray, List.getElem?_cons_zero, List.getElem?_cons_succ] at c0 c1
            have Hat := hide hat1
            clear hat1 hat
            simp only [upd, Act.put, List.setIfInBounds_toArray, List.set_cons_zero, List.set_cons_succ, e0, e1, e2, e3, e4, e5, e6, e7, e8, e9, e10, e11, e12, e14]
            go_wp2_with fail
            refine hK _ _ ⟨?_, ?_, ?_, ?_⟩
            · clear hK
              simp [upd, Act.put, also, *]
            · exact (htap.far hge _).far hge _
            · exact (hbx.far hne _).far hne _
            · exact ((Hat.out.set_ 2 _).set_ 3 _).of_eq (by simp [also, *])
        · intro D a' wd hall hJ
          obtain ⟨rfl, htap, hbx, hat⟩ := hJ
          have e0 : D 0 = true := hall 0 (by decide)
          have e1 : D 1 = true := hall 1 (by decide)
          have e2 : D 2 = true := hall 2 (by decide)
          have e3 : D 3 = true := hall 3 (by decide)
          have e4 : D 4 = true := hall 4 (by decide)
          have e5 : D 5 = true := hall 5 (by decide)
          have e6 : D 6 = true := hall 6 (by decide)
          have e7 : D 7 = true := hall 7 (by decide)
          have e8 : D 8 = true := hall 8 (by decide)
          have e9 : D 9 = true := hall 9 (by decide)
          have e10 : D 10 = true := hall 10 (by decide)
          have e11 : D 11 = true := hall 11 (by decide)
          have e12 : D 12 = true := hall 12 (by decide)
          have e13 : D 13 = true := hall 13 (by decide)
          have e14 : D 14 = true := hall 14 (by decide)
          have e15 : D 15 = true := hall 15 (by decide)
          clear hall
          replace hat : Has w1 wd b5 57 #[.string colN, .string (colS y), .string powN, .string (powS x)] := hat.of_eq (by simp [*])
          simp only [upd, Act.put, List.setIfInBounds_toArray, List.set_cons_zero, List.set_cons_succ, sel_true, e0, e1, e2, e3, e4, e5, e6, e7, e8, e9, e10, e11, e12, e14]
          clear e0 e1 e2 e3 e4 e5 e6 e7 e8 e9 e10 e11 e12 e13 e14 e15
          have c0 := hbx.cell 0
          have c1 := hbx.cell 1
          have c2 := hbx.cell 2
          have c3 := hbx.cell 3
          have c4 := hbx.cell 4
          have c5 := hbx.cell 5
          have c6 := hbx.cell 6
          simp only [List.getElem?_toArray, List.getElem?_cons_zero, List.getElem?_cons_succ] at c0 c1 c2 c3 c4 c5 c6
          have hrb : w.heap.size ≠ b2 := by have := hbx.ge; omega
          replace hres : Has w wd w.heap.size 50 #[.string ⟨#[]⟩, .string ⟨#[]⟩, .string ⟨#[]⟩, .int .i64 0, .int .i64 0, .int .i64 0, .slice none 0 0] := ⟨hres.ge, hres.blk.grown htap.grow (fun e => by have := Option.some.inj e; omega)⟩
          have r0 := hres.cell 0
          have r1 := hres.cell 1
          have r2 := hres.cell 2
          have r3 := hres.cell 3
          have r4 := hres.cell 4
          have r5 := hres.cell 5
          have r6 := hres.cell 6
          have f0 := hres.frozen 0
          have f1 := hres.frozen 1
          have f2 := hres.frozen 2
          have f3 := hres.frozen 3
          have f4 := hres.frozen 4
          have f5 := hres.frozen 5
          have f6 := hres.frozen 6
          simp only [List.getElem?_toArray, List.getElem?_cons_zero, List.getElem?_cons_succ] at r0 r1 r2 r3 r4 r5 r6
          have HAT := hide hat
          have HTAP := hide htap
          have HW := hide hw1g
          clear hat hbx htap hres hw1g
          have hne5 : w.heap.size ≠ b5 := by have := HAT.out.ge; omega
          go_wp2_with fail
          refine bodyPost_ret (v := .agg (pv (itemP k u v) (.slice (some ⟨b5, 0, none⟩) 2 2))) (by simp [results, Tryd.results29, go_sem, pv, itemP, r0, r1, r2, r3, r4, r5, r6]) rfl ?_
          refine ⟨u, v, x, y, b5, true, rfl, hu, hv, hx, hy, ?_, ?_⟩
          · iterate 7 (refine Has.far ?_ hne5 _)
            exact ⟨by have := HAT.out.ge; omega, HAT.out.blk⟩
          · iterate 7 (refine Tap.far ?_ (Nat.le_refl _) _)
            exact ⟨HTAP.out.tape, HW.out.trans HTAP.out.grow, hlt⟩
      · have hzb : (z == 0) = false := by simpa using hz
        have c0 := hbx.cell 0
        have c1 := hbx.cell 1
        have c2 := hbx.cell 2
        have c3 := hbx.cell 3
        have c4 := hbx.cell 4
        have c5 := hbx.cell 5
        have c6 := hbx.cell 6
        simp only [List.getElem?_toArray, List.getElem?_cons_zero, List.getElem?_cons_succ] at c0 c1 c2 c3 c4 c5 c6
        have hrb : w.heap.size ≠ b2 := by have := hbx.ge; omega
        replace hres : Has w wc w.heap.size 50 #[.string ⟨#[]⟩, .string ⟨#[]⟩, .string ⟨#[]⟩, .int .i64 0, .int .i64 0, .int .i64 0, .slice none 0 0] := ⟨hres.ge, hres.blk.grown htap.grow (fun e => by have := Option.some.inj e; omega)⟩
        have r0 := hres.cell 0
        have r1 := hres.cell 1
        have r2 := hres.cell 2
        have r3 := hres.cell 3
        have r4 := hres.cell 4
        have r5 := hres.cell 5
        have r6 := hres.cell 6
        have f0 := hres.frozen 0
        have f1 := hres.frozen 1
        have f2 := hres.frozen 2
        have f3 := hres.frozen 3
        have f4 := hres.frozen 4
        have f5 := hres.frozen 5
        have f6 := hres.frozen 6
        simp only [List.getElem?_toArray, List.getElem?_cons_zero, List.getElem?_cons_succ] at r0 r1 r2 r3 r4 r5 r6
        have HAT := hide hat
        have HTAP := hide htap
        have HW := hide hw1g
        clear hat hbx htap hres hw1g
        have hne5 : w.heap.size ≠ b5 := by have := HAT.out.ge; omega
        go_wp2_with fail
        refine bodyPost_ret (v := .agg (pv (itemP k u v) (.slice (some ⟨b5, 0, none⟩) 2 2))) (by simp [results, Tryd.results29, go_sem, pv, itemP, r0, r1, r2, r3, r4, r5, r6]) rfl ?_
        refine ⟨u, v, x, y, b5, false, rfl, hu, hv, hx, hy, ?_, ?_⟩
        · iterate 7 (refine Has.far ?_ hne5 _)
          exact ⟨by have := HAT.out.ge; omega, HAT.out.blk⟩
        · iterate 7 (refine Tap.far ?_ (Nat.le_refl _) _)
          exact ⟨HTAP.out.tape, HW.out.trans HTAP.out.grow, hlt⟩
end Go.Proofs.YtjgbadopladmdaaDoor
