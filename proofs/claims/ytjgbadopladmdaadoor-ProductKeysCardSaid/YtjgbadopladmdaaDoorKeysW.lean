/- The law's walk of ProductKeys. -/
import Derived.Test.YtjgbadopladmdaaDoorKeysP
import Derived.Test.YtjgbadopladmdaaDoorDiffL
import Derived.Test.YtjgbadopladmdaaDoorItemW
namespace Go.Proofs.YtjgbadopladmdaaDoor
open Go.RowKit Go.Sort
open Rel (Lk)

theorem itemL_form (x y : Nat) (sw : Bool) : ∃ s1 s2 s3 s4, itemL x y sw = [(s1, s2), (s3, s4)] := by
  cases sw <;> exact ⟨_, _, _, _, rfl⟩
/-- a made item's row reads as its list -/
theorem has_recs {w0 w : World} {b : Nat} {L : List Lk} (h : Has w0 w b 57 (L.flatMap lc).toArray) (hl : L.length = 2) : Recs lc 2 w w.heap.size (some ⟨b, 0, none⟩) 2 L :=
  ⟨⟨by rw [flat_len lc_len, hl], fun _ => ⟨_, rfl, h.blk.lt, fun j u hu => by
    have ha : (⟨b, 0, none⟩ : Addr).add j = ⟨b, j, none⟩ := by unfold Addr.add; split <;> simp_all
    rw [ha, h.blk.cell j, ← hu]
    simp⟩⟩, hl.symm, by omega⟩

set_option maxHeartbeats 8000000 in
set_option maxRecDepth 100000 in
theorem keys_law (A : Option Addr) (n c B : Nat) (zs : List Int) (wz : World) (hr : Reads wz B 1 A n (zs.map (Value.int .i64))) (hB : B ≤ wz.heap.size) (hn : n ≤ maxLen) :
    Calls Tryd.prog 13 #[.slice A n c] wz fun e w' => e = .returned (.bool true) ∧ Below wz.heap.size wz w' := by
  have ht0 : Tape (wz.alloc (.cells #[.slice A n c, .int .i64 0] 34)) B wz.heap.size 0 := ⟨A, n, c, 0, zs, Blk.new wz 34 _, Nat.le_refl _, hr.alloc hB _, hB, hn⟩
  have hbt := (Below.refl wz.heap.size wz).alloc (Nat.le_refl _) (.cells #[.slice A n c, .int .i64 0] 34)
  have hz0' : (wz.alloc (.cells #[.slice A n c, .int .i64 0] 34)).heap.size = wz.heap.size + 1 := by simp
  have hcon : Calls Tryd.prog 29 #[.pointer (some ⟨wz.heap.size, 0, none⟩), .int .i64 1] (wz.alloc (.cells #[.slice A n c, .int .i64 0] 34)) (MadeI (wz.alloc (.cells #[.slice A n c, .int .i64 0] 34)) B wz.heap.size 0 1) := item_any wz.heap.size 0 B 1 _ ht0 (by omega) (by omega)
  have HR := hide hcon
  have HBT := hide hbt
  have HZ0 := hide hz0'
  clear hcon ht0 hbt hz0'
  go_enter Tryd.func13, Tryd.ntmps13
  go_wp2_with fail
  with_reducible refine HR.out.mono ?_
  rintro e w1 ⟨u1, v1, x1, y1, b1, sw1, rfl, hu1, hv1, hx1, hy1, hat1, htap1⟩
  have hcon : Calls Tryd.prog 29 #[.pointer (some ⟨wz.heap.size, 0, none⟩), .int .i64 2] w1 (MadeI w1 B wz.heap.size 5 2) := item_any wz.heap.size 5 B 2 w1 htap1.tape (by omega) (by omega)
  have HC2 := hide hcon
  have HAT1 := hide hat1
  have HTAP1 := hide htap1
  clear hcon hat1 htap1
  simp only [pv, itemP]
  go_wp2_with fail
  with_reducible refine HC2.out.mono ?_
  rintro e w2 ⟨u2, v2, x2, y2, b2, sw2, rfl, hu2, hv2, hx2, hy2, hat2, htap2⟩
  simp only [pv, itemP]
  have hzt := HTAP1.out.size
  have hzz := HZ0.out
  have hz2 := htap2.size
  have hg2 := HTAP1.out.grow.trans htap2.grow
  have hb2 : Below wz.heap.size wz w2 := HBT.out.grown hg2 (by omega) (fun x hx => by have := Option.some.inj hx; omega)
  have hra : Has wz w2 b1 57 ((itemL x1 y1 sw1).flatMap lc).toArray := ⟨by have := HAT1.out.ge; omega, HAT1.out.blk.grown htap2.grow (fun e => by have := Option.some.inj e; have := HAT1.out.ge; omega)⟩
  have hrb : Has wz w2 b2 57 ((itemL x2 y2 sw2).flatMap lc).toArray := ⟨by have := hat2.ge; omega, hat2.blk⟩
  have hcode := code_item hu1 hu2
  have hkey := key_item hu1 hu2 hx1 hx2 hy1 hy2
  have hdif := dif_item hx1 hx2 hy1 hy2 sw1 sw2
  have hdc := dif_item hx1 hx1 hy1 hy1 sw1 (!sw1)
  simp only [decide_true, Bool.and_self] at hdc
  have hsA := srt_item x1 y1 sw1
  have hsB := srt_item x2 y2 sw2
  have hsC := srt_item x1 y1 (!sw1)
  rw [← item_swap] at hdc hsC
  have hcA := codeS_short u1
  have hcB := codeS_short u2
  have hLA := itemL_short x1 y1 sw1
  have hLB := itemL_short x2 y2 sw2
  obtain ⟨s1, s2, s3, s4, hla⟩ := itemL_form x1 y1 sw1
  obtain ⟨t1, t2, t3, t4, hlb⟩ := itemL_form x2 y2 sw2
  rw [hla] at hra hdif hdc hsA hsC hLA
  rw [hlb] at hrb hdif hsB hLB
  generalize decide (u1 = u2) = qU at hcode hkey
  generalize (decide (x1 = x2) && decide (y1 = y2)) = qX at hkey hdif
  generalize codeS u1 = cA at hcode hkey hcA ⊢
  generalize codeS u2 = cB at hcode hkey hcB ⊢
  generalize itemS x1 y1 = SA at hkey hsA hsC
  generalize itemS x2 y2 = SB at hkey hsB
  rw [show (⟨#[97, 99, 109, 101]⟩ : ByteArray) = acme from rfl]
  have hbr : acme.size ≤ 1000 := by decide
  generalize acme = br at hkey hbr ⊢
  generalize idS 1 = id1
  generalize idS 2 = id2
  generalize (400000 + 50000 * (v1 : Int)) = z1
  generalize (400000 + 50000 * (v2 : Int)) = z2
  clear hla hlb hu1 hu2 hv1 hv2 hx1 hx2 hy1 hy2 hat2 htap2 HC2 HAT1 HTAP1 hg2 HR HBT HZ0 hzz hzt hz2
  go_upto_region 3 with (fail)
  have hlow : Low wz ((w2.alloc (.cells #[.string id1, .string cA, .string br, .int .i64 1, .int .i64 1, .int .i64 z1, .slice (some ⟨b1, 0, none⟩) 2 2] 50)).alloc (.cells #[.string id2, .string cB, .string br, .int .i64 1, .int .i64 1, .int .i64 z2, .slice (some ⟨b2, 0, none⟩) 2 2] 50)) := ((show Low wz w2 from ⟨hb2⟩).alloc _).alloc _
  have hpa := (Has.new (w0 := wz) (w := w2) hb2.size 50 #[.string id1, .string cA, .string br, .int .i64 1, .int .i64 1, .int .i64 z1, .slice (some ⟨b1, 0, none⟩) 2 2]).alloc (.cells #[.string id2, .string cB, .string br, .int .i64 1, .int .i64 1, .int .i64 z2, .slice (some ⟨b2, 0, none⟩) 2 2] 50)
  have hpb := Has.new (w0 := wz) (w := w2.alloc (.cells #[.string id1, .string cA, .string br, .int .i64 1, .int .i64 1, .int .i64 z1, .slice (some ⟨b1, 0, none⟩) 2 2] 50)) (Nat.le_trans hb2.size (by simp)) 50 #[.string id2, .string cB, .string br, .int .i64 1, .int .i64 1, .int .i64 z2, .slice (some ⟨b2, 0, none⟩) 2 2]
  rw [World.size_alloc] at hpb
  have hra2 := (hra.alloc (.cells #[.string id1, .string cA, .string br, .int .i64 1, .int .i64 1, .int .i64 z1, .slice (some ⟨b1, 0, none⟩) 2 2] 50)).alloc (.cells #[.string id2, .string cB, .string br, .int .i64 1, .int .i64 1, .int .i64 z2, .slice (some ⟨b2, 0, none⟩) 2 2] 50)
  have hrb2 := (hrb.alloc (.cells #[.string id1, .string cA, .string br, .int .i64 1, .int .i64 1, .int .i64 z1, .slice (some ⟨b1, 0, none⟩) 2 2] 50)).alloc (.cells #[.string id2, .string cB, .string br, .int .i64 1, .int .i64 1, .int .i64 z2, .slice (some ⟨b2, 0, none⟩) 2 2] 50)
  generalize (w2.alloc (.cells #[.string id1, .string cA, .string br, .int .i64 1, .int .i64 1, .int .i64 z1, .slice (some ⟨b1, 0, none⟩) 2 2] 50)).alloc (.cells #[.string id2, .string cB, .string br, .int .i64 1, .int .i64 1, .int .i64 z2, .slice (some ⟨b2, 0, none⟩) 2 2] 50) = W at hlow hpa hpb hra2 hrb2 ⊢
  generalize w2.heap.size = ab at hpa hpb ⊢
  have ra := has_recs hra2 rfl
  have rb := has_recs hrb2 rfl
  have wide : ∀ {L : List Lk}, (∀ r ∈ L, r.1.size ≤ 30 ∧ r.2.size ≤ 30) → ∀ r ∈ L, r.1.size ≤ 1000 ∧ r.2.size ≤ 1000 := fun h r hr => ⟨Nat.le_trans (h r hr).1 (by decide), Nat.le_trans (h r hr).2 (by decide)⟩
  have hKA := fun (w' : World) (hb : Below W.heap.size W w') => key_any ⟨id1, cA, br, 1, 1, z1⟩ (some ⟨b1, 0, none⟩) 2 2 W.heap.size [(s1, s2), (s3, s4)] w' (ra.below hb) hb.size (by omega) (by simp only; omega) hbr (wide hLA)
  have hKB := fun (w' : World) (hb : Below W.heap.size W w') => key_any ⟨id2, cB, br, 1, 1, z2⟩ (some ⟨b2, 0, none⟩) 2 2 W.heap.size [(t1, t2), (t3, t4)] w' (rb.below hb) hb.size (by omega) (by simp only; omega) hbr (wide hLB)
  have hDD := fun (w' : World) (hb : Below W.heap.size W w') => differences_any ⟨id1, cA, br, 1, 1, z1⟩ ⟨id2, cB, br, 1, 1, z2⟩ (some ⟨b1, 0, none⟩) (some ⟨b2, 0, none⟩) 2 2 2 2 W.heap.size [(s1, s2), (s3, s4)] [(t1, t2), (t3, t4)] w' (ra.below hb) (rb.below hb) hb.size (by omega) (by omega) (wide hLA) (wide hLB)
  rw [hsA] at hKA
  rw [hsB] at hKB
  simp only [pv] at hKA hKB hDD
  generalize Dif.dif [(s1, s2), (s3, s4)] [(t1, t2), (t3, t4)] = ND at hDD hdif
  have HKA := hide hKA
  have HKB := hide hKB
  have HDD := hide hDD
  have HPA := hide hpa
  have HPB := hide hpb
  have HRA := hide hra2
  have HRB := hide hrb2
  have HLOW := hide hlow
  have HKEY := hide hkey
  have HDC := hide hdc
  have HSC := hide hsC
  have HSA := hide hsA
  have HSB := hide hsB
  have y1 := hpa.cell 1
  have y2 := hpa.cell 2
  have u1' := hpb.cell 1
  have u2' := hpb.cell 2
  simp only [List.getElem?_toArray, List.getElem?_cons_zero, List.getElem?_cons_succ] at y1 y2 u1' u2'
  have hla := hpa.blk.lt
  have hlb := hpb.blk.lt
  clear hKA hKB hDD hpa hpb hra hrb hra2 hrb2 hlow hkey hdc hsA hsB hsC ra rb hb2 wide
  go_cut [6] (fun v wx => v = .bool (qU && qX) ∧ Hid (Below W.heap.size W wx))
  case first =>
    cases qU with
    | false =>
      go_wp2_with fail
      go_meet
      exact ⟨rfl, (show Below _ _ _ from Below.refl _ _)⟩
    | true =>
      have hya := HPA.out.cell
      have hyb := HPB.out.cell
      have y0 := hya 0
      have y3 := hya 3
      have y4 := hya 4
      have y5 := hya 5
      have y6 := hya 6
      have u0' := hyb 0
      have u3' := hyb 3
      have u4' := hyb 4
      have u5' := hyb 5
      have u6' := hyb 6
      simp only [List.getElem?_toArray, List.getElem?_cons_zero, List.getElem?_cons_succ] at y0 y3 y4 y5 y6 u0' u3' u4' u5' u6'
      have HD1 := hide (HDD.out W (Below.refl _ _))
      clear hya hyb
      go_wp2_with fail
      with_reducible refine HD1.out.mono ?_
      rintro e w4 ⟨Ad, cdd, rfl, hrd, hB4⟩
      have HB4 := hide hB4
      clear hrd hB4
      go_wp2_with fail
      go_meet
      exact ⟨by rw [Bool.true_and, ← hdif]; congr 1; rw [Bool.eq_iff_iff]; simp, (show Below _ _ _ from HB4.out)⟩
  case rest =>
    obtain ⟨rfl, Hb⟩ := hcut
    have hlow3 := (HLOW.out.below Hb.out)
    have hpa3 := HPA.out.below Hb.out
    have hpb3 := HPB.out.below Hb.out
    have hra3 := HRA.out.below Hb.out
    have hrb3 := HRB.out.below Hb.out
    clear y1 y2 u1' u2'
    have y0 := hpa3.cell 0
    have y1 := hpa3.cell 1
    have y2 := hpa3.cell 2
    have y3 := hpa3.cell 3
    have y4 := hpa3.cell 4
    have y5 := hpa3.cell 5
    have y6 := hpa3.cell 6
    simp only [List.getElem?_toArray, List.getElem?_cons_zero, List.getElem?_cons_succ] at y0 y1 y2 y3 y4 y5 y6
    go_upto_region 5 with (fail)
    have hl1 : b1 < wc.heap.size := hra3.blk.lt
    have hl2 : b2 < wc.heap.size := hrb3.blk.lt
    have hl3 : ab + 1 < wc.heap.size := hpb3.blk.lt
    have Hlow0 := hide (hlow3.alloc (.cells #[.string id1, .string cA, .string br, .int .i64 1, .int .i64 1, .int .i64 z1, .slice (some ⟨b1, 0, none⟩) 2 2] 50))
    have Hpa0 := hide (hpa3.alloc (.cells #[.string id1, .string cA, .string br, .int .i64 1, .int .i64 1, .int .i64 z1, .slice (some ⟨b1, 0, none⟩) 2 2] 50))
    have Hpb0 := hide (hpb3.alloc (.cells #[.string id1, .string cA, .string br, .int .i64 1, .int .i64 1, .int .i64 z1, .slice (some ⟨b1, 0, none⟩) 2 2] 50))
    have Hra0 := hide (show Has wz (wc.alloc (.cells #[.string id1, .string cA, .string br, .int .i64 1, .int .i64 1, .int .i64 z1, .slice (some ⟨b1, 0, none⟩) 2 2] 50)) b1 57 #[.string s1, .string s2, .string s3, .string s4] from hra3.alloc (.cells #[.string id1, .string cA, .string br, .int .i64 1, .int .i64 1, .int .i64 z1, .slice (some ⟨b1, 0, none⟩) 2 2] 50))
    have Hrb0 := hide (show Has wz (wc.alloc (.cells #[.string id1, .string cA, .string br, .int .i64 1, .int .i64 1, .int .i64 z1, .slice (some ⟨b1, 0, none⟩) 2 2] 50)) b2 57 #[.string t1, .string t2, .string t3, .string t4] from hrb3.alloc (.cells #[.string id1, .string cA, .string br, .int .i64 1, .int .i64 1, .int .i64 z1, .slice (some ⟨b1, 0, none⟩) 2 2] 50))
    have Hcc0 := hide (Has.new (w0 := wz) (w := wc) hlow3.size 50 #[.string id1, .string cA, .string br, .int .i64 1, .int .i64 1, .int .i64 z1, .slice (some ⟨b1, 0, none⟩) 2 2])
    have hbWc := hide (Hb.out.alloc Hb.out.size (.cells #[.string id1, .string cA, .string br, .int .i64 1, .int .i64 1, .int .i64 z1, .slice (some ⟨b1, 0, none⟩) 2 2] 50))
    clear hlow3 hpa3 hpb3 hra3 hrb3 y0 y1 y2 y3 y4 y5 y6
    generalize wc.alloc (.cells #[.string id1, .string cA, .string br, .int .i64 1, .int .i64 1, .int .i64 z1, .slice (some ⟨b1, 0, none⟩) 2 2] 50) = w50 at Hlow0 Hpa0 Hpb0 Hra0 Hrb0 Hcc0 hbWc ⊢
    generalize wc.heap.size = cx at Hcc0 hl1 hl2 hl3 ⊢
    refine wp_region_each (fun a0 D a w => a = upd a0 [(35, sel (D 0) (.pointer (some ⟨ab + 1, 0, none⟩)) u35), (36, sel (D 1) (.string id2) u36), (37, sel (D 2) (.pointer (some ⟨ab + 1, 3, none⟩)) u37), (38, sel (D 3) (.agg #[.int .i64 1, .int .i64 1, .int .i64 z2]) u38), (39, sel (D 4) (.pointer (some ⟨cx, 0, none⟩)) u39), (40, sel (D 6) (.pointer (some ⟨cx, 3, none⟩)) u40)] ∧ (Low wz w) ∧ (Has wz w ab 50 #[.string id1, .string cA, .string br, .int .i64 1, .int .i64 1, .int .i64 z1, .slice (some ⟨b1, 0, none⟩) 2 2]) ∧ (Has wz w (ab + 1) 50 #[.string id2, .string cB, .string br, .int .i64 1, .int .i64 1, .int .i64 z2, .slice (some ⟨b2, 0, none⟩) 2 2]) ∧ (Has wz w b1 57 #[.string s1, .string s2, .string s3, .string s4]) ∧ (Has wz w b2 57 #[.string t1, .string t2, .string t3, .string t4]) ∧ (Has wz w cx 50 (bif D 7 then #[.string id2, .string cA, .string br, .int .i64 1, .int .i64 1, .int .i64 z2, .slice (some ⟨b1, 0, none⟩) 2 2] else bif D 5 then #[.string id2, .string cA, .string br, .int .i64 1, .int .i64 1, .int .i64 z1, .slice (some ⟨b1, 0, none⟩) 2 2] else #[.string id1, .string cA, .string br, .int .i64 1, .int .i64 1, .int .i64 z1, .slice (some ⟨b1, 0, none⟩) 2 2]))) (by kernel_rfl) (by kernel_rfl) ?_ ?_ ?_
    · refine ⟨?_, Hlow0.out.drew, Hpa0.out.drew, Hpb0.out.drew, Hra0.out.drew, Hrb0.out.drew, Hcc0.out.drew⟩
      simp [upd, Act.put]
    · refine ⟨?_, ?_, ?_, ?_, ?_, ?_, ?_, ?_, trivial⟩
      · intro D a w' K hClo hk0 hd hJ
        change D 0 = false at hk0
        obtain ⟨rfl, hlow, hpa, hpb, hra, hrb, hcc⟩ := hJ
        intro hK
        have n1 : D 1 = false := hClo.no 1 rfl (k := 0) (by decide) hk0
        have n4 : D 4 = false := hClo.no 4 rfl (k := 0) (by decide) hk0
        have n5 : D 5 = false := hClo.no 5 rfl (k := 0) (by decide) hk0
        have n6 : D 6 = false := hClo.no 6 rfl (k := 0) (by decide) hk0
        have n7 : D 7 = false := hClo.no 7 rfl (k := 0) (by decide) hk0
        clear hClo hd
        simp only [upd, Act.put, List.setIfInBounds_toArray, List.set_cons_zero, List.set_cons_succ]
        go_wp2_with fail
        refine hK _ _ ⟨?_, ?_, ?_, ?_, ?_, ?_, ?_⟩
        · clear hK
          simp [upd, Act.put, also, *]
        · exact hlow
        · exact hpa
        · exact hpb
        · exact hra
        · exact hrb
        · exact (hcc).of_eq (by simp [also, *])
      · intro D a w' K hClo hk0 hd hJ
        change D 1 = false at hk0
        obtain ⟨rfl, hlow, hpa, hpb, hra, hrb, hcc⟩ := hJ
        intro hK
        have e0 : D 0 = true := hd 0 (by decide)
        have n4 : D 4 = false := hClo.no 4 rfl (k := 1) (by decide) hk0
        have n5 : D 5 = false := hClo.no 5 rfl (k := 1) (by decide) hk0
        have n6 : D 6 = false := hClo.no 6 rfl (k := 1) (by decide) hk0
        have n7 : D 7 = false := hClo.no 7 rfl (k := 1) (by decide) hk0
        clear hClo hd
        have y0 := hpb.cell 0
        simp only [List.getElem?_toArray, List.getElem?_cons_zero] at y0
        simp only [upd, Act.put, List.setIfInBounds_toArray, List.set_cons_zero, List.set_cons_succ, e0]
        go_wp2_with fail
        refine hK _ _ ⟨?_, ?_, ?_, ?_, ?_, ?_, ?_⟩
        · clear hK
          simp [upd, Act.put, also, *]
        · exact hlow
        · exact hpa
        · exact hpb
        · exact hra
        · exact hrb
        · exact (hcc).of_eq (by simp [also, *])
      · intro D a w' K hClo hk0 hd hJ
        change D 2 = false at hk0
        obtain ⟨rfl, hlow, hpa, hpb, hra, hrb, hcc⟩ := hJ
        intro hK
        have n3 : D 3 = false := hClo.no 3 rfl (k := 2) (by decide) hk0
        have n6 : D 6 = false := hClo.no 6 rfl (k := 2) (by decide) hk0
        have n7 : D 7 = false := hClo.no 7 rfl (k := 2) (by decide) hk0
        clear hClo hd
        simp only [upd, Act.put, List.setIfInBounds_toArray, List.set_cons_zero, List.set_cons_succ]
        go_wp2_with fail
        refine hK _ _ ⟨?_, ?_, ?_, ?_, ?_, ?_, ?_⟩
        · clear hK
          simp [upd, Act.put, also, *]
        · exact hlow
        · exact hpa
        · exact hpb
        · exact hra
        · exact hrb
        · exact (hcc).of_eq (by simp [also, *])
      · intro D a w' K hClo hk0 hd hJ
        change D 3 = false at hk0
        obtain ⟨rfl, hlow, hpa, hpb, hra, hrb, hcc⟩ := hJ
        intro hK
        have e2 : D 2 = true := hd 2 (by decide)
        have n6 : D 6 = false := hClo.no 6 rfl (k := 3) (by decide) hk0
        have n7 : D 7 = false := hClo.no 7 rfl (k := 3) (by decide) hk0
        clear hClo hd
        have y3 := hpb.cell 3
        have y4 := hpb.cell 4
        have y5 := hpb.cell 5
        simp only [List.getElem?_toArray, List.getElem?_cons_zero, List.getElem?_cons_succ] at y3 y4 y5
        simp only [upd, Act.put, List.setIfInBounds_toArray, List.set_cons_zero, List.set_cons_succ, e2]
        go_wp2_with fail
        refine hK _ _ ⟨?_, ?_, ?_, ?_, ?_, ?_, ?_⟩
        · clear hK
          simp [upd, Act.put, also, *]
        · exact hlow
        · exact hpa
        · exact hpb
        · exact hra
        · exact hrb
        · exact (hcc).of_eq (by simp [also, *])
      · intro D a w' K hClo hk0 hd hJ
        change D 4 = false at hk0
        obtain ⟨rfl, hlow, hpa, hpb, hra, hrb, hcc⟩ := hJ
        intro hK
        have e0 : D 0 = true := hd 0 (by decide)
        have e1 : D 1 = true := hd 1 (by decide)
        have n5 : D 5 = false := hClo.no 5 rfl (k := 4) (by decide) hk0
        have n6 : D 6 = false := hClo.no 6 rfl (k := 4) (by decide) hk0
        have n7 : D 7 = false := hClo.no 7 rfl (k := 4) (by decide) hk0
        clear hClo hd
        simp only [upd, Act.put, List.setIfInBounds_toArray, List.set_cons_zero, List.set_cons_succ, e0, e1]
        go_wp2_with fail
        refine hK _ _ ⟨?_, ?_, ?_, ?_, ?_, ?_, ?_⟩
        · clear hK
          simp [upd, Act.put, also, *]
        · exact hlow
        · exact hpa
        · exact hpb
        · exact hra
        · exact hrb
        · exact (hcc).of_eq (by simp [also, *])
      · intro D a w' K hClo hk0 hd hJ
        change D 5 = false at hk0
        obtain ⟨rfl, hlow, hpa, hpb, hra, hrb, hcc⟩ := hJ
        intro hK
        have e0 : D 0 = true := hd 0 (by decide)
        have e1 : D 1 = true := hd 1 (by decide)
        have e4 : D 4 = true := hd 4 (by decide)
        have n6 : D 6 = false := hClo.no 6 rfl (k := 5) (by decide) hk0
        have n7 : D 7 = false := hClo.no 7 rfl (k := 5) (by decide) hk0
        clear hClo hd
        have hbk1 : Has wz w' cx 50 #[.string id1, .string cA, .string br, .int .i64 1, .int .i64 1, .int .i64 z1, .slice (some ⟨b1, 0, none⟩) 2 2] := hcc.of_eq (by simp [*])
        have hge := hbk1.ge
        have c0' := hbk1.cell 0
        have f0' := hbk1.frozen 0
        simp only [List.getElem?_toArray, List.getElem?_cons_zero] at c0'
        have Hbk := hide hbk1
        clear hbk1 hcc
        simp only [upd, Act.put, List.setIfInBounds_toArray, List.set_cons_zero, List.set_cons_succ, e0, e1, e4]
        go_wp2_with fail
        refine hK _ _ ⟨?_, ?_, ?_, ?_, ?_, ?_, ?_⟩
        · clear hK
          simp [upd, Act.put, also, *]
        · iterate 1 (refine Low.far ?_ hge _)
          exact hlow
        · iterate 1 (refine Has.far ?_ (show (cx : Nat) ≠ ab by omega) _)
          exact hpa
        · iterate 1 (refine Has.far ?_ (show (cx : Nat) ≠ ab + 1 by omega) _)
          exact hpb
        · iterate 1 (refine Has.far ?_ (show (cx : Nat) ≠ b1 by omega) _)
          exact hra
        · iterate 1 (refine Has.far ?_ (show (cx : Nat) ≠ b2 by omega) _)
          exact hrb
        · exact (Hbk.out.set_ 0 _).of_eq (by simp [also, *])
      · intro D a w' K hClo hk0 hd hJ
        change D 6 = false at hk0
        obtain ⟨rfl, hlow, hpa, hpb, hra, hrb, hcc⟩ := hJ
        intro hK
        have e0 : D 0 = true := hd 0 (by decide)
        have e1 : D 1 = true := hd 1 (by decide)
        have e2 : D 2 = true := hd 2 (by decide)
        have e3 : D 3 = true := hd 3 (by decide)
        have e4 : D 4 = true := hd 4 (by decide)
        have e5 : D 5 = true := hd 5 (by decide)
        have n7 : D 7 = false := hClo.no 7 rfl (k := 6) (by decide) hk0
        clear hClo hd
        simp only [upd, Act.put, List.setIfInBounds_toArray, List.set_cons_zero, List.set_cons_succ, e0, e1, e2, e3, e4]
        go_wp2_with fail
        refine hK _ _ ⟨?_, ?_, ?_, ?_, ?_, ?_, ?_⟩
        · clear hK
          simp [upd, Act.put, also, *]
        · exact hlow
        · exact hpa
        · exact hpb
        · exact hra
        · exact hrb
        · exact (hcc).of_eq (by simp [also, *])
      · intro D a w' K hClo hk0 hd hJ
        change D 7 = false at hk0
        obtain ⟨rfl, hlow, hpa, hpb, hra, hrb, hcc⟩ := hJ
        intro hK
        have e0 : D 0 = true := hd 0 (by decide)
        have e1 : D 1 = true := hd 1 (by decide)
        have e2 : D 2 = true := hd 2 (by decide)
        have e3 : D 3 = true := hd 3 (by decide)
        have e4 : D 4 = true := hd 4 (by decide)
        have e5 : D 5 = true := hd 5 (by decide)
        have e6 : D 6 = true := hd 6 (by decide)
        clear hClo hd
        have hbk1 : Has wz w' cx 50 #[.string id2, .string cA, .string br, .int .i64 1, .int .i64 1, .int .i64 z1, .slice (some ⟨b1, 0, none⟩) 2 2] := hcc.of_eq (by simp [*])
        have hge := hbk1.ge
        have c3' := hbk1.cell 3
        have f3' := hbk1.frozen 3
        have c4' := hbk1.cell 4
        have f4' := hbk1.frozen 4
        have c5' := hbk1.cell 5
        have f5' := hbk1.frozen 5
        simp only [List.getElem?_toArray, List.getElem?_cons_zero, List.getElem?_cons_succ] at c3' c4' c5'
        have Hbk := hide hbk1
        clear hbk1 hcc
        simp only [upd, Act.put, List.setIfInBounds_toArray, List.set_cons_zero, List.set_cons_succ, e0, e1, e2, e3, e4, e6]
        go_wp2_with fail
        refine hK _ _ ⟨?_, ?_, ?_, ?_, ?_, ?_, ?_⟩
        · clear hK
          simp [upd, Act.put, also, *]
        · iterate 3 (refine Low.far ?_ hge _)
          exact hlow
        · iterate 3 (refine Has.far ?_ (show (cx : Nat) ≠ ab by omega) _)
          exact hpa
        · iterate 3 (refine Has.far ?_ (show (cx : Nat) ≠ ab + 1 by omega) _)
          exact hpb
        · iterate 3 (refine Has.far ?_ (show (cx : Nat) ≠ b1 by omega) _)
          exact hra
        · iterate 3 (refine Has.far ?_ (show (cx : Nat) ≠ b2 by omega) _)
          exact hrb
        · exact (((Hbk.out.set_ 3 _).set_ 4 _).set_ 5 _).of_eq (by simp [also, *])
    · intro D a' w60 hall hJ
      obtain ⟨rfl, hlow, hpa, hpb, hra, hrb, hcc⟩ := hJ
      have e0 : D 0 = true := hall 0 (by decide)
      have e1 : D 1 = true := hall 1 (by decide)
      have e2 : D 2 = true := hall 2 (by decide)
      have e3 : D 3 = true := hall 3 (by decide)
      have e4 : D 4 = true := hall 4 (by decide)
      have e5 : D 5 = true := hall 5 (by decide)
      have e6 : D 6 = true := hall 6 (by decide)
      have e7 : D 7 = true := hall 7 (by decide)
      clear hall
      replace hcc : Has wz w60 cx 50 #[.string id2, .string cA, .string br, .int .i64 1, .int .i64 1, .int .i64 z2, .slice (some ⟨b1, 0, none⟩) 2 2] := hcc.of_eq (by simp [*])
      simp only [upd, Act.put, List.setIfInBounds_toArray, List.set_cons_zero, List.set_cons_succ, sel_true, e0, e1, e2, e3, e4, e6]
      clear e0 e1 e2 e3 e4 e5 e6 e7
      have Hlow6 := hide hlow
      have Hpa6 := hide hpa
      have Hpb6 := hide hpb
      have Hra6 := hide hra
      have Hrb6 := hide hrb
      have Hcc6 := hide hcc
      clear hlow hpa hpb hra hrb hcc
      go_upto_region 6 with (fail)
      refine wp_region_each (fun a0 D a w => ∃ (nb : Nat), a = upd a0 [(41, sel (D 0) (.pointer (some ⟨ab, 6, none⟩)) u41), (42, sel (D 1) (.slice (some ⟨b1, 0, none⟩) 2 2) u42), (43, sel (D 2) (.pointer (some ⟨b1, 2, none⟩)) u43), (44, sel (D 3) (.agg #[.string s3, .string s4]) u44), (45, sel (D 4) (.pointer (some ⟨ab, 6, none⟩)) u45), (46, sel (D 5) (.slice (some ⟨b1, 0, none⟩) 2 2) u46), (47, sel (D 6) (.pointer (some ⟨b1, 0, none⟩)) u47), (48, sel (D 7) (.agg #[.string s1, .string s2]) u48), (49, sel (D 8) (.slice (some ⟨nb, 0, none⟩) 2 2) u49), (50, sel (D 9) (.pointer (some ⟨cx, 6, none⟩)) u50)] ∧ (Low wz w) ∧ (Has wz w ab 50 #[.string id1, .string cA, .string br, .int .i64 1, .int .i64 1, .int .i64 z1, .slice (some ⟨b1, 0, none⟩) 2 2]) ∧ (Has wz w (ab + 1) 50 #[.string id2, .string cB, .string br, .int .i64 1, .int .i64 1, .int .i64 z2, .slice (some ⟨b2, 0, none⟩) 2 2]) ∧ (Has wz w b1 57 #[.string s1, .string s2, .string s3, .string s4]) ∧ (Has wz w b2 57 #[.string t1, .string t2, .string t3, .string t4]) ∧ (D 8 = true → Has wz w nb 57 #[.string s3, .string s4, .string s1, .string s2]) ∧ (Has wz w cx 50 (bif D 10 then #[.string id2, .string cA, .string br, .int .i64 1, .int .i64 1, .int .i64 z2, .slice (some ⟨nb, 0, none⟩) 2 2] else #[.string id2, .string cA, .string br, .int .i64 1, .int .i64 1, .int .i64 z2, .slice (some ⟨b1, 0, none⟩) 2 2]))) (by kernel_rfl) (by kernel_rfl) ?_ ?_ ?_
      · refine ⟨0, ?_, Hlow6.out.drew, Hpa6.out.drew, Hpb6.out.drew, Hra6.out.drew, Hrb6.out.drew, fun h => Bool.noConfusion h, Hcc6.out.drew⟩
        simp [upd, Act.put]
      · refine ⟨?_, ?_, ?_, ?_, ?_, ?_, ?_, ?_, ?_, ?_, ?_, trivial⟩
        · intro D a w' K hClo hk0 hd hJ
          change D 0 = false at hk0
          obtain ⟨nb, rfl, hlow, hpa, hpb, hra, hrb, hnw, hcc⟩ := hJ
          intro hK
          have n1 : D 1 = false := hClo.no 1 rfl (k := 0) (by decide) hk0
          have n9 : D 9 = false := hClo.no 9 rfl (k := 0) (by decide) hk0
          have n10 : D 10 = false := hClo.no 10 rfl (k := 0) (by decide) hk0
          have n2 : D 2 = false := hClo.no 2 rfl (k := 1) (by decide) n1
          have n3 : D 3 = false := hClo.no 3 rfl (k := 2) (by decide) n2
          have n8 : D 8 = false := hClo.no 8 rfl (k := 3) (by decide) n3
          clear hClo hd
          simp only [upd, Act.put, List.setIfInBounds_toArray, List.set_cons_zero, List.set_cons_succ]
          go_wp2_with fail
          refine hK _ _ ⟨nb, ?_, ?_, ?_, ?_, ?_, ?_, ?_, ?_⟩
          · clear hK
            simp [upd, Act.put, also, *]
          · exact hlow
          · exact hpa
          · exact hpb
          · exact hra
          · exact hrb
          · exact fun h => by simp [also, *] at h
          · exact (hcc).of_eq (by simp [also, *])
        · intro D a w' K hClo hk0 hd hJ
          change D 1 = false at hk0
          obtain ⟨nb, rfl, hlow, hpa, hpb, hra, hrb, hnw, hcc⟩ := hJ
          intro hK
          have e0 : D 0 = true := hd 0 (by decide)
          have n2 : D 2 = false := hClo.no 2 rfl (k := 1) (by decide) hk0
          have n9 : D 9 = false := hClo.no 9 rfl (k := 1) (by decide) hk0
          have n10 : D 10 = false := hClo.no 10 rfl (k := 1) (by decide) hk0
          have n3 : D 3 = false := hClo.no 3 rfl (k := 2) (by decide) n2
          have n8 : D 8 = false := hClo.no 8 rfl (k := 3) (by decide) n3
          clear hClo hd
          have y6 := hpa.cell 6
          simp only [List.getElem?_toArray, List.getElem?_cons_zero, List.getElem?_cons_succ] at y6
          simp only [upd, Act.put, List.setIfInBounds_toArray, List.set_cons_zero, List.set_cons_succ, e0]
          go_wp2_with fail
          refine hK _ _ ⟨nb, ?_, ?_, ?_, ?_, ?_, ?_, ?_, ?_⟩
          · clear hK
            simp [upd, Act.put, also, *]
          · exact hlow
          · exact hpa
          · exact hpb
          · exact hra
          · exact hrb
          · exact fun h => by simp [also, *] at h
          · exact (hcc).of_eq (by simp [also, *])
        · intro D a w' K hClo hk0 hd hJ
          change D 2 = false at hk0
          obtain ⟨nb, rfl, hlow, hpa, hpb, hra, hrb, hnw, hcc⟩ := hJ
          intro hK
          have e1 : D 1 = true := hd 1 (by decide)
          have n3 : D 3 = false := hClo.no 3 rfl (k := 2) (by decide) hk0
          have n9 : D 9 = false := hClo.no 9 rfl (k := 2) (by decide) hk0
          have n10 : D 10 = false := hClo.no 10 rfl (k := 2) (by decide) hk0
          have n8 : D 8 = false := hClo.no 8 rfl (k := 3) (by decide) n3
          clear hClo hd
          simp only [upd, Act.put, List.setIfInBounds_toArray, List.set_cons_zero, List.set_cons_succ, e1]
          go_wp2_with fail
          refine hK _ _ ⟨nb, ?_, ?_, ?_, ?_, ?_, ?_, ?_, ?_⟩
          · clear hK
            simp [upd, Act.put, also, *]
          · exact hlow
          · exact hpa
          · exact hpb
          · exact hra
          · exact hrb
          · exact fun h => by simp [also, *] at h
          · exact (hcc).of_eq (by simp [also, *])
        · intro D a w' K hClo hk0 hd hJ
          change D 3 = false at hk0
          obtain ⟨nb, rfl, hlow, hpa, hpb, hra, hrb, hnw, hcc⟩ := hJ
          intro hK
          have e2 : D 2 = true := hd 2 (by decide)
          have n8 : D 8 = false := hClo.no 8 rfl (k := 3) (by decide) hk0
          have n9 : D 9 = false := hClo.no 9 rfl (k := 3) (by decide) hk0
          have n10 : D 10 = false := hClo.no 10 rfl (k := 3) (by decide) hk0
          clear hClo hd
          have y2 := hra.cell 2
          have y3 := hra.cell 3
          simp only [List.getElem?_toArray, List.getElem?_cons_zero, List.getElem?_cons_succ] at y2 y3
          simp only [upd, Act.put, List.setIfInBounds_toArray, List.set_cons_zero, List.set_cons_succ, e2]
          go_wp2_with fail
          refine hK _ _ ⟨nb, ?_, ?_, ?_, ?_, ?_, ?_, ?_, ?_⟩
          · clear hK
            simp [upd, Act.put, also, *]
          · exact hlow
          · exact hpa
          · exact hpb
          · exact hra
          · exact hrb
          · exact fun h => by simp [also, *] at h
          · exact (hcc).of_eq (by simp [also, *])
        · intro D a w' K hClo hk0 hd hJ
          change D 4 = false at hk0
          obtain ⟨nb, rfl, hlow, hpa, hpb, hra, hrb, hnw, hcc⟩ := hJ
          intro hK
          have n5 : D 5 = false := hClo.no 5 rfl (k := 4) (by decide) hk0
          have n9 : D 9 = false := hClo.no 9 rfl (k := 4) (by decide) hk0
          have n10 : D 10 = false := hClo.no 10 rfl (k := 4) (by decide) hk0
          have n6 : D 6 = false := hClo.no 6 rfl (k := 5) (by decide) n5
          have n7 : D 7 = false := hClo.no 7 rfl (k := 6) (by decide) n6
          have n8 : D 8 = false := hClo.no 8 rfl (k := 7) (by decide) n7
          clear hClo hd
          simp only [upd, Act.put, List.setIfInBounds_toArray, List.set_cons_zero, List.set_cons_succ]
          go_wp2_with fail
          refine hK _ _ ⟨nb, ?_, ?_, ?_, ?_, ?_, ?_, ?_, ?_⟩
          · clear hK
            simp [upd, Act.put, also, *]
          · exact hlow
          · exact hpa
          · exact hpb
          · exact hra
          · exact hrb
          · exact fun h => by simp [also, *] at h
          · exact (hcc).of_eq (by simp [also, *])
        · intro D a w' K hClo hk0 hd hJ
          change D 5 = false at hk0
          obtain ⟨nb, rfl, hlow, hpa, hpb, hra, hrb, hnw, hcc⟩ := hJ
          intro hK
          have e4 : D 4 = true := hd 4 (by decide)
          have n6 : D 6 = false := hClo.no 6 rfl (k := 5) (by decide) hk0
          have n9 : D 9 = false := hClo.no 9 rfl (k := 5) (by decide) hk0
          have n10 : D 10 = false := hClo.no 10 rfl (k := 5) (by decide) hk0
          have n7 : D 7 = false := hClo.no 7 rfl (k := 6) (by decide) n6
          have n8 : D 8 = false := hClo.no 8 rfl (k := 7) (by decide) n7
          clear hClo hd
          have y6 := hpa.cell 6
          simp only [List.getElem?_toArray, List.getElem?_cons_zero, List.getElem?_cons_succ] at y6
          simp only [upd, Act.put, List.setIfInBounds_toArray, List.set_cons_zero, List.set_cons_succ, e4]
          go_wp2_with fail
          refine hK _ _ ⟨nb, ?_, ?_, ?_, ?_, ?_, ?_, ?_, ?_⟩
          · clear hK
            simp [upd, Act.put, also, *]
          · exact hlow
          · exact hpa
          · exact hpb
          · exact hra
          · exact hrb
          · exact fun h => by simp [also, *] at h
          · exact (hcc).of_eq (by simp [also, *])
        · intro D a w' K hClo hk0 hd hJ
          change D 6 = false at hk0
          obtain ⟨nb, rfl, hlow, hpa, hpb, hra, hrb, hnw, hcc⟩ := hJ
          intro hK
          have e5 : D 5 = true := hd 5 (by decide)
          have n7 : D 7 = false := hClo.no 7 rfl (k := 6) (by decide) hk0
          have n9 : D 9 = false := hClo.no 9 rfl (k := 6) (by decide) hk0
          have n10 : D 10 = false := hClo.no 10 rfl (k := 6) (by decide) hk0
          have n8 : D 8 = false := hClo.no 8 rfl (k := 7) (by decide) n7
          clear hClo hd
          simp only [upd, Act.put, List.setIfInBounds_toArray, List.set_cons_zero, List.set_cons_succ, e5]
          go_wp2_with fail
          refine hK _ _ ⟨nb, ?_, ?_, ?_, ?_, ?_, ?_, ?_, ?_⟩
          · clear hK
            simp [upd, Act.put, also, *]
          · exact hlow
          · exact hpa
          · exact hpb
          · exact hra
          · exact hrb
          · exact fun h => by simp [also, *] at h
          · exact (hcc).of_eq (by simp [also, *])
        · intro D a w' K hClo hk0 hd hJ
          change D 7 = false at hk0
          obtain ⟨nb, rfl, hlow, hpa, hpb, hra, hrb, hnw, hcc⟩ := hJ
          intro hK
          have e6 : D 6 = true := hd 6 (by decide)
          have n8 : D 8 = false := hClo.no 8 rfl (k := 7) (by decide) hk0
          have n9 : D 9 = false := hClo.no 9 rfl (k := 7) (by decide) hk0
          have n10 : D 10 = false := hClo.no 10 rfl (k := 7) (by decide) hk0
          clear hClo hd
          have y0 := hra.cell 0
          have y1 := hra.cell 1
          simp only [List.getElem?_toArray, List.getElem?_cons_zero, List.getElem?_cons_succ] at y0 y1
          simp only [upd, Act.put, List.setIfInBounds_toArray, List.set_cons_zero, List.set_cons_succ, e6]
          go_wp2_with fail
          refine hK _ _ ⟨nb, ?_, ?_, ?_, ?_, ?_, ?_, ?_, ?_⟩
          · clear hK
            simp [upd, Act.put, also, *]
          · exact hlow
          · exact hpa
          · exact hpb
          · exact hra
          · exact hrb
          · exact fun h => by simp [also, *] at h
          · exact (hcc).of_eq (by simp [also, *])
        · intro D a w' K hClo hk0 hd hJ
          change D 8 = false at hk0
          obtain ⟨nb, rfl, hlow, hpa, hpb, hra, hrb, hnw, hcc⟩ := hJ
          intro hK
          have e3 : D 3 = true := hd 3 (by decide)
          have e7 : D 7 = true := hd 7 (by decide)
          have n9 : D 9 = false := hClo.no 9 rfl (k := 8) (by decide) hk0
          have n10 : D 10 = false := hClo.no 10 rfl (k := 8) (by decide) hk0
          clear hClo hd
          simp only [upd, Act.put, List.setIfInBounds_toArray, List.set_cons_zero, List.set_cons_succ, e3, e7]
          go_wp2_with fail
          refine hK _ _ ⟨w'.heap.size, ?_, ?_, ?_, ?_, ?_, ?_, ?_, ?_⟩
          · clear hK
            simp [upd, Act.put, also, *]
          · exact hlow.alloc _
          · exact hpa.alloc _
          · exact hpb.alloc _
          · exact hra.alloc _
          · exact hrb.alloc _
          · exact fun _ => Has.new hlow.size 57 _
          · exact (hcc.alloc _).of_eq (by simp [also, *])
        · intro D a w' K hClo hk0 hd hJ
          change D 9 = false at hk0
          obtain ⟨nb, rfl, hlow, hpa, hpb, hra, hrb, hnw, hcc⟩ := hJ
          intro hK
          have e0 : D 0 = true := hd 0 (by decide)
          have e1 : D 1 = true := hd 1 (by decide)
          have e2 : D 2 = true := hd 2 (by decide)
          have e3 : D 3 = true := hd 3 (by decide)
          have e4 : D 4 = true := hd 4 (by decide)
          have e5 : D 5 = true := hd 5 (by decide)
          have e6 : D 6 = true := hd 6 (by decide)
          have e7 : D 7 = true := hd 7 (by decide)
          have e8 : D 8 = true := hd 8 (by decide)
          have n10 : D 10 = false := hClo.no 10 rfl (k := 9) (by decide) hk0
          clear hClo hd
          simp only [upd, Act.put, List.setIfInBounds_toArray, List.set_cons_zero, List.set_cons_succ, e0, e1, e2, e3, e4, e5, e6, e7, e8]
          go_wp2_with fail
          refine hK _ _ ⟨nb, ?_, ?_, ?_, ?_, ?_, ?_, ?_, ?_⟩
          · clear hK
            simp [upd, Act.put, also, *]
          · exact hlow
          · exact hpa
          · exact hpb
          · exact hra
          · exact hrb
          · exact fun h => (hnw (by simpa [also] using h))
          · exact (hcc).of_eq (by simp [also, *])
        · intro D a w' K hClo hk0 hd hJ
          change D 10 = false at hk0
          obtain ⟨nb, rfl, hlow, hpa, hpb, hra, hrb, hnw, hcc⟩ := hJ
          intro hK
          have e0 : D 0 = true := hd 0 (by decide)
          have e1 : D 1 = true := hd 1 (by decide)
          have e2 : D 2 = true := hd 2 (by decide)
          have e3 : D 3 = true := hd 3 (by decide)
          have e4 : D 4 = true := hd 4 (by decide)
          have e5 : D 5 = true := hd 5 (by decide)
          have e6 : D 6 = true := hd 6 (by decide)
          have e7 : D 7 = true := hd 7 (by decide)
          have e8 : D 8 = true := hd 8 (by decide)
          have e9 : D 9 = true := hd 9 (by decide)
          clear hClo hd
          have hbk1 : Has wz w' cx 50 #[.string id2, .string cA, .string br, .int .i64 1, .int .i64 1, .int .i64 z2, .slice (some ⟨b1, 0, none⟩) 2 2] := hcc.of_eq (by simp [*])
          have hge := hbk1.ge
          have c6' := hbk1.cell 6
          have f6' := hbk1.frozen 6
          simp only [List.getElem?_toArray, List.getElem?_cons_zero, List.getElem?_cons_succ] at c6'
          have Hbk := hide hbk1
          clear hbk1 hcc
          simp only [upd, Act.put, List.setIfInBounds_toArray, List.set_cons_zero, List.set_cons_succ, e0, e1, e2, e3, e4, e5, e6, e7, e8, e9]
          go_wp2_with fail
          refine hK _ _ ⟨nb, ?_, ?_, ?_, ?_, ?_, ?_, ?_, ?_⟩
          · clear hK
            simp [upd, Act.put, also, *]
          · iterate 1 (refine Low.far ?_ hge _)
            exact hlow
          · iterate 1 (refine Has.far ?_ (show (cx : Nat) ≠ ab by omega) _)
            exact hpa
          · iterate 1 (refine Has.far ?_ (show (cx : Nat) ≠ ab + 1 by omega) _)
            exact hpb
          · iterate 1 (refine Has.far ?_ (show (cx : Nat) ≠ b1 by omega) _)
            exact hra
          · iterate 1 (refine Has.far ?_ (show (cx : Nat) ≠ b2 by omega) _)
            exact hrb
          · exact fun _ => (hnw e8).far (show (cx : Nat) ≠ nb from fun e => by have q := (hnw e8).blk; rw [← e] at q; exact absurd (Option.some.inj (q.symm.trans Hbk.out.blk)) (by simp)) _
          · exact (Hbk.out.set_ 6 _).of_eq (by simp [also, *])
      · intro D a' w7 hall hJ
        obtain ⟨nb, rfl, hlow, hpa, hpb, hra, hrb, hnw, hcc⟩ := hJ
        have e0 : D 0 = true := hall 0 (by decide)
        have e1 : D 1 = true := hall 1 (by decide)
        have e2 : D 2 = true := hall 2 (by decide)
        have e3 : D 3 = true := hall 3 (by decide)
        have e4 : D 4 = true := hall 4 (by decide)
        have e5 : D 5 = true := hall 5 (by decide)
        have e6 : D 6 = true := hall 6 (by decide)
        have e7 : D 7 = true := hall 7 (by decide)
        have e8 : D 8 = true := hall 8 (by decide)
        have e9 : D 9 = true := hall 9 (by decide)
        have e10 : D 10 = true := hall 10 (by decide)
        clear hall
        replace hnw := hnw e8
        replace hcc : Has wz w7 cx 50 #[.string id2, .string cA, .string br, .int .i64 1, .int .i64 1, .int .i64 z2, .slice (some ⟨nb, 0, none⟩) 2 2] := hcc.of_eq (by simp [*])
        simp only [upd, Act.put, List.setIfInBounds_toArray, List.set_cons_zero, List.set_cons_succ, sel_true, e0, e1, e2, e3, e4, e5, e6, e7, e8, e9]
        clear e0 e1 e2 e3 e4 e5 e6 e7 e8 e9 e10
        have hkc := has_recs (L := [(s3, s4), (s1, s2)]) hnw rfl
        have hka := has_recs (L := [(s1, s2), (s3, s4)]) hra rfl
        have hkb := has_recs (L := [(t1, t2), (t3, t4)]) hrb rfl
        go_upto_region 7 with (fail)
        have wide : ∀ {L : List Lk}, (∀ r ∈ L, r.1.size ≤ 30 ∧ r.2.size ≤ 30) → ∀ r ∈ L, r.1.size ≤ 1000 ∧ r.2.size ≤ 1000 := fun h r hr => ⟨Nat.le_trans (h r hr).1 (by decide), Nat.le_trans (h r hr).2 (by decide)⟩
        have hLC : ∀ r ∈ [(s3, s4), (s1, s2)], r.1.size ≤ 30 ∧ r.2.size ≤ 30 := fun r hr => hLA r (by
          simp only [List.mem_cons, List.not_mem_nil, or_false] at hr ⊢
          exact hr.symm)
        have hKA := fun (w' : World) (hb : Below w7.heap.size w7 w') => key_any ⟨id1, cA, br, 1, 1, z1⟩ (some ⟨b1, 0, none⟩) 2 2 w7.heap.size [(s1, s2), (s3, s4)] w' (hka.below hb) hb.size (by omega) (by simp only; omega) hbr (wide hLA)
        have hKB := fun (w' : World) (hb : Below w7.heap.size w7 w') => key_any ⟨id2, cB, br, 1, 1, z2⟩ (some ⟨b2, 0, none⟩) 2 2 w7.heap.size [(t1, t2), (t3, t4)] w' (hkb.below hb) hb.size (by omega) (by simp only; omega) hbr (wide hLB)
        have hKC := fun (w' : World) (hb : Below w7.heap.size w7 w') => key_any ⟨id2, cA, br, 1, 1, z2⟩ (some ⟨nb, 0, none⟩) 2 2 w7.heap.size [(s3, s4), (s1, s2)] w' (hkc.below hb) hb.size (by omega) (by simp only; omega) hbr (wide hLC)
        have hDC := fun (w' : World) (hb : Below w7.heap.size w7 w') => differences_any ⟨id1, cA, br, 1, 1, z1⟩ ⟨id2, cA, br, 1, 1, z2⟩ (some ⟨b1, 0, none⟩) (some ⟨nb, 0, none⟩) 2 2 2 2 w7.heap.size [(s1, s2), (s3, s4)] [(s3, s4), (s1, s2)] w' (hka.below hb) (hkc.below hb) hb.size (by omega) (by omega) (wide hLA) (wide hLC)
        have hnc : (Dif.dif [(s1, s2), (s3, s4)] [(s3, s4), (s1, s2)]).length = 0 := of_decide_eq_true HDC.out
        rw [List.length_eq_zero_iff] at hnc
        rw [hnc] at hDC
        rw [HSA.out] at hKA
        rw [HSB.out] at hKB
        rw [show Srt.srt [(s3, s4), (s1, s2)] = SA from HSC.out] at hKC
        simp only [pv] at hKA hKB hKC hDC
        have hkey := HKEY.out
        generalize keyS cA br SA = ka at hKA hKC hkey
        generalize keyS cB br SB = kb at hKB hkey
        have HK1 := hide hKA
        have HK2 := hide hKB
        have HK3 := hide hKC
        have HD3 := hide hDC
        have HKE := hide hkey
        have HXA := hide hpa.blk
        have HXB := hide hpb.blk
        have HXC := hide hcc.blk
        have HL7 := hide hlow
        clear hKA hKB hKC hDC hnc hkey hpa hpb hcc hlow hra hrb hnw hka hkb hkc wide hLC
        refine wp_region_each (fun a0 D a w => ∃ (Bd : Option Addr) (kd : Nat), a = upd a0 [(51, sel (D 0) (.agg #[.string id1, .string cA, .string br, .int .i64 1, .int .i64 1, .int .i64 z1, .slice (some ⟨b1, 0, none⟩) 2 2]) u51), (52, sel (D 1) (.string ka) u52), (53, sel (D 2) (.agg #[.string id2, .string cB, .string br, .int .i64 1, .int .i64 1, .int .i64 z2, .slice (some ⟨b2, 0, none⟩) 2 2]) u53), (54, sel (D 3) (.string kb) u54), (55, sel (D 4) (.bool (qU && qX)) u55), (56, sel (D 5) (.bool (qU && qX)) u56), (57, sel (D 6) (.bool true) u57), (58, sel (D 7) (.bool true) u58), (59, sel (D 8) (.agg #[.string id2, .string cA, .string br, .int .i64 1, .int .i64 1, .int .i64 z2, .slice (some ⟨nb, 0, none⟩) 2 2]) u59), (60, sel (D 9) (.string ka) u60), (61, sel (D 10) (.agg #[.string id1, .string cA, .string br, .int .i64 1, .int .i64 1, .int .i64 z1, .slice (some ⟨b1, 0, none⟩) 2 2]) u61), (62, sel (D 11) (.string ka) u62), (63, sel (D 12) (.bool true) u63), (64, sel (D 13) (.bool true) u64), (65, sel (D 14) (.bool true) u65), (66, sel (D 15) (.agg #[.string id1, .string cA, .string br, .int .i64 1, .int .i64 1, .int .i64 z1, .slice (some ⟨b1, 0, none⟩) 2 2]) u66), (67, sel (D 16) (.agg #[.string id2, .string cA, .string br, .int .i64 1, .int .i64 1, .int .i64 z2, .slice (some ⟨nb, 0, none⟩) 2 2]) u67), (68, sel (D 17) (.slice Bd 0 kd) u68), (69, sel (D 18) (.int .i64 0) u69), (70, sel (D 19) (.bool true) u70), (71, sel (D 20) (.bool true) u71), (72, sel (D 21) (.bool true) u72), (73, sel (D 22) (.bool true) u73), (74, sel (D 23) (.bool true) u74), (2, sel (D 24) (.bool true) (Value.bool false))] ∧ (Low w7 w)) (by kernel_rfl) (by kernel_rfl) ?_ ?_ ?_
        · refine ⟨none, 0, ?_, Low.mk_ _⟩
          simp [upd, Act.put]
        · refine ⟨?_, ?_, ?_, ?_, ?_, ?_, ?_, ?_, ?_, ?_, ?_, ?_, ?_, ?_, ?_, ?_, ?_, ?_, ?_, ?_, ?_, ?_, ?_, ?_, ?_, trivial⟩
          · intro D a w' K hClo hk0 hd hJ
            change D 0 = false at hk0
            obtain ⟨Bd, kd, rfl, hlow⟩ := hJ
            intro hK
            have n1 : D 1 = false := hClo.no 1 rfl (k := 0) (by decide) hk0
            have n24 : D 24 = false := hClo.no 24 rfl (k := 0) (by decide) hk0
            have n3 : D 3 = false := hClo.no 3 rfl (k := 1) (by decide) n1
            have n4 : D 4 = false := hClo.no 4 rfl (k := 1) (by decide) n1
            have n7 : D 7 = false := hClo.no 7 rfl (k := 3) (by decide) n3
            have n6 : D 6 = false := hClo.no 6 rfl (k := 4) (by decide) n4
            have n8 : D 8 = false := hClo.no 8 rfl (k := 7) (by decide) n7
            have n9 : D 9 = false := hClo.no 9 rfl (k := 7) (by decide) n7
            have n10 : D 10 = false := hClo.no 10 rfl (k := 7) (by decide) n7
            have n11 : D 11 = false := hClo.no 11 rfl (k := 7) (by decide) n7
            have n12 : D 12 = false := hClo.no 12 rfl (k := 7) (by decide) n7
            have n13 : D 13 = false := hClo.no 13 rfl (k := 7) (by decide) n7
            have n14 : D 14 = false := hClo.no 14 rfl (k := 11) (by decide) n11
            have n15 : D 15 = false := hClo.no 15 rfl (k := 14) (by decide) n14
            have n16 : D 16 = false := hClo.no 16 rfl (k := 14) (by decide) n14
            have n17 : D 17 = false := hClo.no 17 rfl (k := 14) (by decide) n14
            have n18 : D 18 = false := hClo.no 18 rfl (k := 14) (by decide) n14
            have n19 : D 19 = false := hClo.no 19 rfl (k := 14) (by decide) n14
            have n20 : D 20 = false := hClo.no 20 rfl (k := 14) (by decide) n14
            have n21 : D 21 = false := hClo.no 21 rfl (k := 17) (by decide) n17
            have n22 : D 22 = false := hClo.no 22 rfl (k := 21) (by decide) n21
            have n23 : D 23 = false := hClo.no 23 rfl (k := 21) (by decide) n21
            clear hClo hd
            have y0 := (hlow.b.cell (p := ⟨ab, 0, none⟩) HXA.out.lt).trans (HXA.out.cell 0)
            have y1 := (hlow.b.cell (p := ⟨ab, 1, none⟩) HXA.out.lt).trans (HXA.out.cell 1)
            have y2 := (hlow.b.cell (p := ⟨ab, 2, none⟩) HXA.out.lt).trans (HXA.out.cell 2)
            have y3 := (hlow.b.cell (p := ⟨ab, 3, none⟩) HXA.out.lt).trans (HXA.out.cell 3)
            have y4 := (hlow.b.cell (p := ⟨ab, 4, none⟩) HXA.out.lt).trans (HXA.out.cell 4)
            have y5 := (hlow.b.cell (p := ⟨ab, 5, none⟩) HXA.out.lt).trans (HXA.out.cell 5)
            have y6 := (hlow.b.cell (p := ⟨ab, 6, none⟩) HXA.out.lt).trans (HXA.out.cell 6)
            simp only [List.getElem?_toArray, List.getElem?_cons_zero, List.getElem?_cons_succ] at y0 y1 y2 y3 y4 y5 y6
            simp only [upd, Act.put, List.setIfInBounds_toArray, List.set_cons_zero, List.set_cons_succ]
            go_wp2_with fail
            refine hK _ _ ⟨Bd, kd, ?_, ?_⟩
            · clear hK
              simp [upd, Act.put, also, *]
            · exact hlow
          · intro D a w' K hClo hk0 hd hJ
            change D 1 = false at hk0
            obtain ⟨Bd, kd, rfl, hlow⟩ := hJ
            intro hK
            have e0 : D 0 = true := hd 0 (by decide)
            have n3 : D 3 = false := hClo.no 3 rfl (k := 1) (by decide) hk0
            have n4 : D 4 = false := hClo.no 4 rfl (k := 1) (by decide) hk0
            have n24 : D 24 = false := hClo.no 24 rfl (k := 1) (by decide) hk0
            have n7 : D 7 = false := hClo.no 7 rfl (k := 3) (by decide) n3
            have n6 : D 6 = false := hClo.no 6 rfl (k := 4) (by decide) n4
            have n8 : D 8 = false := hClo.no 8 rfl (k := 7) (by decide) n7
            have n9 : D 9 = false := hClo.no 9 rfl (k := 7) (by decide) n7
            have n10 : D 10 = false := hClo.no 10 rfl (k := 7) (by decide) n7
            have n11 : D 11 = false := hClo.no 11 rfl (k := 7) (by decide) n7
            have n12 : D 12 = false := hClo.no 12 rfl (k := 7) (by decide) n7
            have n13 : D 13 = false := hClo.no 13 rfl (k := 7) (by decide) n7
            have n14 : D 14 = false := hClo.no 14 rfl (k := 11) (by decide) n11
            have n15 : D 15 = false := hClo.no 15 rfl (k := 14) (by decide) n14
            have n16 : D 16 = false := hClo.no 16 rfl (k := 14) (by decide) n14
            have n17 : D 17 = false := hClo.no 17 rfl (k := 14) (by decide) n14
            have n18 : D 18 = false := hClo.no 18 rfl (k := 14) (by decide) n14
            have n19 : D 19 = false := hClo.no 19 rfl (k := 14) (by decide) n14
            have n20 : D 20 = false := hClo.no 20 rfl (k := 14) (by decide) n14
            have n21 : D 21 = false := hClo.no 21 rfl (k := 17) (by decide) n17
            have n22 : D 22 = false := hClo.no 22 rfl (k := 21) (by decide) n21
            have n23 : D 23 = false := hClo.no 23 rfl (k := 21) (by decide) n21
            clear hClo hd
            have hcall := HK1.out w' hlow.b
            have HC := hide hcall
            clear hcall
            simp only [upd, Act.put, List.setIfInBounds_toArray, List.set_cons_zero, List.set_cons_succ, e0]
            go_wp2_with fail
            with_reducible refine HC.out.mono ?_
            rintro e w2 ⟨rfl, hB2⟩
            go_wp2_with fail
            refine hK _ _ ⟨Bd, kd, ?_, ?_⟩
            · clear hK
              simp [upd, Act.put, also, *]
            · exact hlow.below hB2
          · intro D a w' K hClo hk0 hd hJ
            change D 2 = false at hk0
            obtain ⟨Bd, kd, rfl, hlow⟩ := hJ
            intro hK
            have n3 : D 3 = false := hClo.no 3 rfl (k := 2) (by decide) hk0
            have n24 : D 24 = false := hClo.no 24 rfl (k := 2) (by decide) hk0
            have n4 : D 4 = false := hClo.no 4 rfl (k := 3) (by decide) n3
            have n7 : D 7 = false := hClo.no 7 rfl (k := 3) (by decide) n3
            have n6 : D 6 = false := hClo.no 6 rfl (k := 4) (by decide) n4
            have n8 : D 8 = false := hClo.no 8 rfl (k := 7) (by decide) n7
            have n9 : D 9 = false := hClo.no 9 rfl (k := 7) (by decide) n7
            have n10 : D 10 = false := hClo.no 10 rfl (k := 7) (by decide) n7
            have n11 : D 11 = false := hClo.no 11 rfl (k := 7) (by decide) n7
            have n12 : D 12 = false := hClo.no 12 rfl (k := 7) (by decide) n7
            have n13 : D 13 = false := hClo.no 13 rfl (k := 7) (by decide) n7
            have n14 : D 14 = false := hClo.no 14 rfl (k := 11) (by decide) n11
            have n15 : D 15 = false := hClo.no 15 rfl (k := 14) (by decide) n14
            have n16 : D 16 = false := hClo.no 16 rfl (k := 14) (by decide) n14
            have n17 : D 17 = false := hClo.no 17 rfl (k := 14) (by decide) n14
            have n18 : D 18 = false := hClo.no 18 rfl (k := 14) (by decide) n14
            have n19 : D 19 = false := hClo.no 19 rfl (k := 14) (by decide) n14
            have n20 : D 20 = false := hClo.no 20 rfl (k := 14) (by decide) n14
            have n21 : D 21 = false := hClo.no 21 rfl (k := 17) (by decide) n17
            have n22 : D 22 = false := hClo.no 22 rfl (k := 21) (by decide) n21
            have n23 : D 23 = false := hClo.no 23 rfl (k := 21) (by decide) n21
            clear hClo hd
            have y0 := (hlow.b.cell (p := ⟨ab + 1, 0, none⟩) HXB.out.lt).trans (HXB.out.cell 0)
            have y1 := (hlow.b.cell (p := ⟨ab + 1, 1, none⟩) HXB.out.lt).trans (HXB.out.cell 1)
            have y2 := (hlow.b.cell (p := ⟨ab + 1, 2, none⟩) HXB.out.lt).trans (HXB.out.cell 2)
            have y3 := (hlow.b.cell (p := ⟨ab + 1, 3, none⟩) HXB.out.lt).trans (HXB.out.cell 3)
            have y4 := (hlow.b.cell (p := ⟨ab + 1, 4, none⟩) HXB.out.lt).trans (HXB.out.cell 4)
            have y5 := (hlow.b.cell (p := ⟨ab + 1, 5, none⟩) HXB.out.lt).trans (HXB.out.cell 5)
            have y6 := (hlow.b.cell (p := ⟨ab + 1, 6, none⟩) HXB.out.lt).trans (HXB.out.cell 6)
            simp only [List.getElem?_toArray, List.getElem?_cons_zero, List.getElem?_cons_succ] at y0 y1 y2 y3 y4 y5 y6
            simp only [upd, Act.put, List.setIfInBounds_toArray, List.set_cons_zero, List.set_cons_succ]
            go_wp2_with fail
            refine hK _ _ ⟨Bd, kd, ?_, ?_⟩
            · clear hK
              simp [upd, Act.put, also, *]
            · exact hlow
          · intro D a w' K hClo hk0 hd hJ
            change D 3 = false at hk0
            obtain ⟨Bd, kd, rfl, hlow⟩ := hJ
            intro hK
            have e1 : D 1 = true := hd 1 (by decide)
            have e2 : D 2 = true := hd 2 (by decide)
            have n4 : D 4 = false := hClo.no 4 rfl (k := 3) (by decide) hk0
            have n7 : D 7 = false := hClo.no 7 rfl (k := 3) (by decide) hk0
            have n24 : D 24 = false := hClo.no 24 rfl (k := 3) (by decide) hk0
            have n6 : D 6 = false := hClo.no 6 rfl (k := 4) (by decide) n4
            have n8 : D 8 = false := hClo.no 8 rfl (k := 7) (by decide) n7
            have n9 : D 9 = false := hClo.no 9 rfl (k := 7) (by decide) n7
            have n10 : D 10 = false := hClo.no 10 rfl (k := 7) (by decide) n7
            have n11 : D 11 = false := hClo.no 11 rfl (k := 7) (by decide) n7
            have n12 : D 12 = false := hClo.no 12 rfl (k := 7) (by decide) n7
            have n13 : D 13 = false := hClo.no 13 rfl (k := 7) (by decide) n7
            have n14 : D 14 = false := hClo.no 14 rfl (k := 11) (by decide) n11
            have n15 : D 15 = false := hClo.no 15 rfl (k := 14) (by decide) n14
            have n16 : D 16 = false := hClo.no 16 rfl (k := 14) (by decide) n14
            have n17 : D 17 = false := hClo.no 17 rfl (k := 14) (by decide) n14
            have n18 : D 18 = false := hClo.no 18 rfl (k := 14) (by decide) n14
            have n19 : D 19 = false := hClo.no 19 rfl (k := 14) (by decide) n14
            have n20 : D 20 = false := hClo.no 20 rfl (k := 14) (by decide) n14
            have n21 : D 21 = false := hClo.no 21 rfl (k := 17) (by decide) n17
            have n22 : D 22 = false := hClo.no 22 rfl (k := 21) (by decide) n21
            have n23 : D 23 = false := hClo.no 23 rfl (k := 21) (by decide) n21
            clear hClo hd
            have hcall := HK2.out w' hlow.b
            have HC := hide hcall
            clear hcall
            simp only [upd, Act.put, List.setIfInBounds_toArray, List.set_cons_zero, List.set_cons_succ, e1, e2]
            go_wp2_with fail
            with_reducible refine HC.out.mono ?_
            rintro e w2 ⟨rfl, hB2⟩
            go_wp2_with fail
            refine hK _ _ ⟨Bd, kd, ?_, ?_⟩
            · clear hK
              simp [upd, Act.put, also, *]
            · exact hlow.below hB2
          · intro D a w' K hClo hk0 hd hJ
            change D 4 = false at hk0
            obtain ⟨Bd, kd, rfl, hlow⟩ := hJ
            intro hK
            have e1 : D 1 = true := hd 1 (by decide)
            have e3 : D 3 = true := hd 3 (by decide)
            have n6 : D 6 = false := hClo.no 6 rfl (k := 4) (by decide) hk0
            have n24 : D 24 = false := hClo.no 24 rfl (k := 4) (by decide) hk0
            have n7 : D 7 = false := hClo.no 7 rfl (k := 6) (by decide) n6
            have n8 : D 8 = false := hClo.no 8 rfl (k := 7) (by decide) n7
            have n9 : D 9 = false := hClo.no 9 rfl (k := 7) (by decide) n7
            have n10 : D 10 = false := hClo.no 10 rfl (k := 7) (by decide) n7
            have n11 : D 11 = false := hClo.no 11 rfl (k := 7) (by decide) n7
            have n12 : D 12 = false := hClo.no 12 rfl (k := 7) (by decide) n7
            have n13 : D 13 = false := hClo.no 13 rfl (k := 7) (by decide) n7
            have n14 : D 14 = false := hClo.no 14 rfl (k := 11) (by decide) n11
            have n15 : D 15 = false := hClo.no 15 rfl (k := 14) (by decide) n14
            have n16 : D 16 = false := hClo.no 16 rfl (k := 14) (by decide) n14
            have n17 : D 17 = false := hClo.no 17 rfl (k := 14) (by decide) n14
            have n18 : D 18 = false := hClo.no 18 rfl (k := 14) (by decide) n14
            have n19 : D 19 = false := hClo.no 19 rfl (k := 14) (by decide) n14
            have n20 : D 20 = false := hClo.no 20 rfl (k := 14) (by decide) n14
            have n21 : D 21 = false := hClo.no 21 rfl (k := 17) (by decide) n17
            have n22 : D 22 = false := hClo.no 22 rfl (k := 21) (by decide) n21
            have n23 : D 23 = false := hClo.no 23 rfl (k := 21) (by decide) n21
            clear hClo hd
            simp only [upd, Act.put, List.setIfInBounds_toArray, List.set_cons_zero, List.set_cons_succ, e1, e3]
            go_wp2_with fail
            refine hK _ _ ⟨Bd, kd, ?_, ?_⟩
            · clear hK
              simp [upd, Act.put, also, *]
              exact HKE.out
            · exact hlow
          · intro D a w' K hClo hk0 hd hJ
            change D 5 = false at hk0
            obtain ⟨Bd, kd, rfl, hlow⟩ := hJ
            intro hK
            have n6 : D 6 = false := hClo.no 6 rfl (k := 5) (by decide) hk0
            have n24 : D 24 = false := hClo.no 24 rfl (k := 5) (by decide) hk0
            have n7 : D 7 = false := hClo.no 7 rfl (k := 6) (by decide) n6
            have n8 : D 8 = false := hClo.no 8 rfl (k := 7) (by decide) n7
            have n9 : D 9 = false := hClo.no 9 rfl (k := 7) (by decide) n7
            have n10 : D 10 = false := hClo.no 10 rfl (k := 7) (by decide) n7
            have n11 : D 11 = false := hClo.no 11 rfl (k := 7) (by decide) n7
            have n12 : D 12 = false := hClo.no 12 rfl (k := 7) (by decide) n7
            have n13 : D 13 = false := hClo.no 13 rfl (k := 7) (by decide) n7
            have n14 : D 14 = false := hClo.no 14 rfl (k := 11) (by decide) n11
            have n15 : D 15 = false := hClo.no 15 rfl (k := 14) (by decide) n14
            have n16 : D 16 = false := hClo.no 16 rfl (k := 14) (by decide) n14
            have n17 : D 17 = false := hClo.no 17 rfl (k := 14) (by decide) n14
            have n18 : D 18 = false := hClo.no 18 rfl (k := 14) (by decide) n14
            have n19 : D 19 = false := hClo.no 19 rfl (k := 14) (by decide) n14
            have n20 : D 20 = false := hClo.no 20 rfl (k := 14) (by decide) n14
            have n21 : D 21 = false := hClo.no 21 rfl (k := 17) (by decide) n17
            have n22 : D 22 = false := hClo.no 22 rfl (k := 21) (by decide) n21
            have n23 : D 23 = false := hClo.no 23 rfl (k := 21) (by decide) n21
            clear hClo hd
            simp only [upd, Act.put, List.setIfInBounds_toArray, List.set_cons_zero, List.set_cons_succ]
            go_wp2_with fail
            refine hK _ _ ⟨Bd, kd, ?_, ?_⟩
            · clear hK
              simp [upd, Act.put, also, *]
            · exact hlow
          · intro D a w' K hClo hk0 hd hJ
            change D 6 = false at hk0
            obtain ⟨Bd, kd, rfl, hlow⟩ := hJ
            intro hK
            have e4 : D 4 = true := hd 4 (by decide)
            have e5 : D 5 = true := hd 5 (by decide)
            have n7 : D 7 = false := hClo.no 7 rfl (k := 6) (by decide) hk0
            have n24 : D 24 = false := hClo.no 24 rfl (k := 6) (by decide) hk0
            have n8 : D 8 = false := hClo.no 8 rfl (k := 7) (by decide) n7
            have n9 : D 9 = false := hClo.no 9 rfl (k := 7) (by decide) n7
            have n10 : D 10 = false := hClo.no 10 rfl (k := 7) (by decide) n7
            have n11 : D 11 = false := hClo.no 11 rfl (k := 7) (by decide) n7
            have n12 : D 12 = false := hClo.no 12 rfl (k := 7) (by decide) n7
            have n13 : D 13 = false := hClo.no 13 rfl (k := 7) (by decide) n7
            have n14 : D 14 = false := hClo.no 14 rfl (k := 11) (by decide) n11
            have n15 : D 15 = false := hClo.no 15 rfl (k := 14) (by decide) n14
            have n16 : D 16 = false := hClo.no 16 rfl (k := 14) (by decide) n14
            have n17 : D 17 = false := hClo.no 17 rfl (k := 14) (by decide) n14
            have n18 : D 18 = false := hClo.no 18 rfl (k := 14) (by decide) n14
            have n19 : D 19 = false := hClo.no 19 rfl (k := 14) (by decide) n14
            have n20 : D 20 = false := hClo.no 20 rfl (k := 14) (by decide) n14
            have n21 : D 21 = false := hClo.no 21 rfl (k := 17) (by decide) n17
            have n22 : D 22 = false := hClo.no 22 rfl (k := 21) (by decide) n21
            have n23 : D 23 = false := hClo.no 23 rfl (k := 21) (by decide) n21
            clear hClo hd
            simp only [upd, Act.put, List.setIfInBounds_toArray, List.set_cons_zero, List.set_cons_succ, e4, e5]
            go_wp2_with fail
            refine hK _ _ ⟨Bd, kd, ?_, ?_⟩
            · clear hK
              simp [upd, Act.put, also, *]
            · exact hlow
          · intro D a w' K hClo hk0 hd hJ
            change D 7 = false at hk0
            obtain ⟨Bd, kd, rfl, hlow⟩ := hJ
            intro hK
            have e3 : D 3 = true := hd 3 (by decide)
            have e6 : D 6 = true := hd 6 (by decide)
            have n8 : D 8 = false := hClo.no 8 rfl (k := 7) (by decide) hk0
            have n9 : D 9 = false := hClo.no 9 rfl (k := 7) (by decide) hk0
            have n10 : D 10 = false := hClo.no 10 rfl (k := 7) (by decide) hk0
            have n11 : D 11 = false := hClo.no 11 rfl (k := 7) (by decide) hk0
            have n12 : D 12 = false := hClo.no 12 rfl (k := 7) (by decide) hk0
            have n13 : D 13 = false := hClo.no 13 rfl (k := 7) (by decide) hk0
            have n24 : D 24 = false := hClo.no 24 rfl (k := 7) (by decide) hk0
            have n14 : D 14 = false := hClo.no 14 rfl (k := 11) (by decide) n11
            have n15 : D 15 = false := hClo.no 15 rfl (k := 14) (by decide) n14
            have n16 : D 16 = false := hClo.no 16 rfl (k := 14) (by decide) n14
            have n17 : D 17 = false := hClo.no 17 rfl (k := 14) (by decide) n14
            have n18 : D 18 = false := hClo.no 18 rfl (k := 14) (by decide) n14
            have n19 : D 19 = false := hClo.no 19 rfl (k := 14) (by decide) n14
            have n20 : D 20 = false := hClo.no 20 rfl (k := 14) (by decide) n14
            have n21 : D 21 = false := hClo.no 21 rfl (k := 17) (by decide) n17
            have n22 : D 22 = false := hClo.no 22 rfl (k := 21) (by decide) n21
            have n23 : D 23 = false := hClo.no 23 rfl (k := 21) (by decide) n21
            clear hClo hd
            simp only [upd, Act.put, List.setIfInBounds_toArray, List.set_cons_zero, List.set_cons_succ, e3, e6]
            go_wp2_with fail
            refine hK _ _ ⟨Bd, kd, ?_, ?_⟩
            · clear hK
              simp [upd, Act.put, also, *]
            · exact hlow
          · intro D a w' K hClo hk0 hd hJ
            change D 8 = false at hk0
            obtain ⟨Bd, kd, rfl, hlow⟩ := hJ
            intro hK
            have e7 : D 7 = true := hd 7 (by decide)
            have n9 : D 9 = false := hClo.no 9 rfl (k := 8) (by decide) hk0
            have n24 : D 24 = false := hClo.no 24 rfl (k := 8) (by decide) hk0
            have n11 : D 11 = false := hClo.no 11 rfl (k := 9) (by decide) n9
            have n12 : D 12 = false := hClo.no 12 rfl (k := 9) (by decide) n9
            have n14 : D 14 = false := hClo.no 14 rfl (k := 11) (by decide) n11
            have n13 : D 13 = false := hClo.no 13 rfl (k := 12) (by decide) n12
            have n15 : D 15 = false := hClo.no 15 rfl (k := 14) (by decide) n14
            have n16 : D 16 = false := hClo.no 16 rfl (k := 14) (by decide) n14
            have n17 : D 17 = false := hClo.no 17 rfl (k := 14) (by decide) n14
            have n18 : D 18 = false := hClo.no 18 rfl (k := 14) (by decide) n14
            have n19 : D 19 = false := hClo.no 19 rfl (k := 14) (by decide) n14
            have n20 : D 20 = false := hClo.no 20 rfl (k := 14) (by decide) n14
            have n21 : D 21 = false := hClo.no 21 rfl (k := 17) (by decide) n17
            have n22 : D 22 = false := hClo.no 22 rfl (k := 21) (by decide) n21
            have n23 : D 23 = false := hClo.no 23 rfl (k := 21) (by decide) n21
            clear hClo hd
            have y0 := (hlow.b.cell (p := ⟨cx, 0, none⟩) HXC.out.lt).trans (HXC.out.cell 0)
            have y1 := (hlow.b.cell (p := ⟨cx, 1, none⟩) HXC.out.lt).trans (HXC.out.cell 1)
            have y2 := (hlow.b.cell (p := ⟨cx, 2, none⟩) HXC.out.lt).trans (HXC.out.cell 2)
            have y3 := (hlow.b.cell (p := ⟨cx, 3, none⟩) HXC.out.lt).trans (HXC.out.cell 3)
            have y4 := (hlow.b.cell (p := ⟨cx, 4, none⟩) HXC.out.lt).trans (HXC.out.cell 4)
            have y5 := (hlow.b.cell (p := ⟨cx, 5, none⟩) HXC.out.lt).trans (HXC.out.cell 5)
            have y6 := (hlow.b.cell (p := ⟨cx, 6, none⟩) HXC.out.lt).trans (HXC.out.cell 6)
            simp only [List.getElem?_toArray, List.getElem?_cons_zero, List.getElem?_cons_succ] at y0 y1 y2 y3 y4 y5 y6
            simp only [upd, Act.put, List.setIfInBounds_toArray, List.set_cons_zero, List.set_cons_succ, e7]
            go_wp2_with fail
            refine hK _ _ ⟨Bd, kd, ?_, ?_⟩
            · clear hK
              simp [upd, Act.put, also, *]
            · exact hlow
          · intro D a w' K hClo hk0 hd hJ
            change D 9 = false at hk0
            obtain ⟨Bd, kd, rfl, hlow⟩ := hJ
            intro hK
            have e7 : D 7 = true := hd 7 (by decide)
            have e8 : D 8 = true := hd 8 (by decide)
            have n11 : D 11 = false := hClo.no 11 rfl (k := 9) (by decide) hk0
            have n12 : D 12 = false := hClo.no 12 rfl (k := 9) (by decide) hk0
            have n24 : D 24 = false := hClo.no 24 rfl (k := 9) (by decide) hk0
            have n14 : D 14 = false := hClo.no 14 rfl (k := 11) (by decide) n11
            have n13 : D 13 = false := hClo.no 13 rfl (k := 12) (by decide) n12
            have n15 : D 15 = false := hClo.no 15 rfl (k := 14) (by decide) n14
            have n16 : D 16 = false := hClo.no 16 rfl (k := 14) (by decide) n14
            have n17 : D 17 = false := hClo.no 17 rfl (k := 14) (by decide) n14
            have n18 : D 18 = false := hClo.no 18 rfl (k := 14) (by decide) n14
            have n19 : D 19 = false := hClo.no 19 rfl (k := 14) (by decide) n14
            have n20 : D 20 = false := hClo.no 20 rfl (k := 14) (by decide) n14
            have n21 : D 21 = false := hClo.no 21 rfl (k := 17) (by decide) n17
            have n22 : D 22 = false := hClo.no 22 rfl (k := 21) (by decide) n21
            have n23 : D 23 = false := hClo.no 23 rfl (k := 21) (by decide) n21
            clear hClo hd
            have hcall := HK3.out w' hlow.b
            have HC := hide hcall
            clear hcall
            simp only [upd, Act.put, List.setIfInBounds_toArray, List.set_cons_zero, List.set_cons_succ, e7, e8]
            go_wp2_with fail
            with_reducible refine HC.out.mono ?_
            rintro e w2 ⟨rfl, hB2⟩
            go_wp2_with fail
            refine hK _ _ ⟨Bd, kd, ?_, ?_⟩
            · clear hK
              simp [upd, Act.put, also, *]
            · exact hlow.below hB2
          · intro D a w' K hClo hk0 hd hJ
            change D 10 = false at hk0
            obtain ⟨Bd, kd, rfl, hlow⟩ := hJ
            intro hK
            have e7 : D 7 = true := hd 7 (by decide)
            have n11 : D 11 = false := hClo.no 11 rfl (k := 10) (by decide) hk0
            have n24 : D 24 = false := hClo.no 24 rfl (k := 10) (by decide) hk0
            have n12 : D 12 = false := hClo.no 12 rfl (k := 11) (by decide) n11
            have n14 : D 14 = false := hClo.no 14 rfl (k := 11) (by decide) n11
            have n13 : D 13 = false := hClo.no 13 rfl (k := 12) (by decide) n12
            have n15 : D 15 = false := hClo.no 15 rfl (k := 14) (by decide) n14
            have n16 : D 16 = false := hClo.no 16 rfl (k := 14) (by decide) n14
            have n17 : D 17 = false := hClo.no 17 rfl (k := 14) (by decide) n14
            have n18 : D 18 = false := hClo.no 18 rfl (k := 14) (by decide) n14
            have n19 : D 19 = false := hClo.no 19 rfl (k := 14) (by decide) n14
            have n20 : D 20 = false := hClo.no 20 rfl (k := 14) (by decide) n14
            have n21 : D 21 = false := hClo.no 21 rfl (k := 17) (by decide) n17
            have n22 : D 22 = false := hClo.no 22 rfl (k := 21) (by decide) n21
            have n23 : D 23 = false := hClo.no 23 rfl (k := 21) (by decide) n21
            clear hClo hd
            have y0 := (hlow.b.cell (p := ⟨ab, 0, none⟩) HXA.out.lt).trans (HXA.out.cell 0)
            have y1 := (hlow.b.cell (p := ⟨ab, 1, none⟩) HXA.out.lt).trans (HXA.out.cell 1)
            have y2 := (hlow.b.cell (p := ⟨ab, 2, none⟩) HXA.out.lt).trans (HXA.out.cell 2)
            have y3 := (hlow.b.cell (p := ⟨ab, 3, none⟩) HXA.out.lt).trans (HXA.out.cell 3)
            have y4 := (hlow.b.cell (p := ⟨ab, 4, none⟩) HXA.out.lt).trans (HXA.out.cell 4)
            have y5 := (hlow.b.cell (p := ⟨ab, 5, none⟩) HXA.out.lt).trans (HXA.out.cell 5)
            have y6 := (hlow.b.cell (p := ⟨ab, 6, none⟩) HXA.out.lt).trans (HXA.out.cell 6)
            simp only [List.getElem?_toArray, List.getElem?_cons_zero, List.getElem?_cons_succ] at y0 y1 y2 y3 y4 y5 y6
            simp only [upd, Act.put, List.setIfInBounds_toArray, List.set_cons_zero, List.set_cons_succ, e7]
            go_wp2_with fail
            refine hK _ _ ⟨Bd, kd, ?_, ?_⟩
            · clear hK
              simp [upd, Act.put, also, *]
            · exact hlow
          · intro D a w' K hClo hk0 hd hJ
            change D 11 = false at hk0
            obtain ⟨Bd, kd, rfl, hlow⟩ := hJ
            intro hK
            have e7 : D 7 = true := hd 7 (by decide)
            have e9 : D 9 = true := hd 9 (by decide)
            have e10 : D 10 = true := hd 10 (by decide)
            have n12 : D 12 = false := hClo.no 12 rfl (k := 11) (by decide) hk0
            have n14 : D 14 = false := hClo.no 14 rfl (k := 11) (by decide) hk0
            have n24 : D 24 = false := hClo.no 24 rfl (k := 11) (by decide) hk0
            have n13 : D 13 = false := hClo.no 13 rfl (k := 12) (by decide) n12
            have n15 : D 15 = false := hClo.no 15 rfl (k := 14) (by decide) n14
            have n16 : D 16 = false := hClo.no 16 rfl (k := 14) (by decide) n14
            have n17 : D 17 = false := hClo.no 17 rfl (k := 14) (by decide) n14
            have n18 : D 18 = false := hClo.no 18 rfl (k := 14) (by decide) n14
            have n19 : D 19 = false := hClo.no 19 rfl (k := 14) (by decide) n14
            have n20 : D 20 = false := hClo.no 20 rfl (k := 14) (by decide) n14
            have n21 : D 21 = false := hClo.no 21 rfl (k := 17) (by decide) n17
            have n22 : D 22 = false := hClo.no 22 rfl (k := 21) (by decide) n21
            have n23 : D 23 = false := hClo.no 23 rfl (k := 21) (by decide) n21
            clear hClo hd
            have hcall := HK1.out w' hlow.b
            have HC := hide hcall
            clear hcall
            simp only [upd, Act.put, List.setIfInBounds_toArray, List.set_cons_zero, List.set_cons_succ, e7, e9, e10]
            go_wp2_with fail
            with_reducible refine HC.out.mono ?_
            rintro e w2 ⟨rfl, hB2⟩
            go_wp2_with fail
            refine hK _ _ ⟨Bd, kd, ?_, ?_⟩
            · clear hK
              simp [upd, Act.put, also, *]
            · exact hlow.below hB2
          · intro D a w' K hClo hk0 hd hJ
            change D 12 = false at hk0
            obtain ⟨Bd, kd, rfl, hlow⟩ := hJ
            intro hK
            have e7 : D 7 = true := hd 7 (by decide)
            have e9 : D 9 = true := hd 9 (by decide)
            have e11 : D 11 = true := hd 11 (by decide)
            have n13 : D 13 = false := hClo.no 13 rfl (k := 12) (by decide) hk0
            have n24 : D 24 = false := hClo.no 24 rfl (k := 12) (by decide) hk0
            have n14 : D 14 = false := hClo.no 14 rfl (k := 13) (by decide) n13
            have n15 : D 15 = false := hClo.no 15 rfl (k := 14) (by decide) n14
            have n16 : D 16 = false := hClo.no 16 rfl (k := 14) (by decide) n14
            have n17 : D 17 = false := hClo.no 17 rfl (k := 14) (by decide) n14
            have n18 : D 18 = false := hClo.no 18 rfl (k := 14) (by decide) n14
            have n19 : D 19 = false := hClo.no 19 rfl (k := 14) (by decide) n14
            have n20 : D 20 = false := hClo.no 20 rfl (k := 14) (by decide) n14
            have n21 : D 21 = false := hClo.no 21 rfl (k := 17) (by decide) n17
            have n22 : D 22 = false := hClo.no 22 rfl (k := 21) (by decide) n21
            have n23 : D 23 = false := hClo.no 23 rfl (k := 21) (by decide) n21
            clear hClo hd
            simp only [upd, Act.put, List.setIfInBounds_toArray, List.set_cons_zero, List.set_cons_succ, e7, e9, e11]
            go_wp2_with fail
            refine hK _ _ ⟨Bd, kd, ?_, ?_⟩
            · clear hK
              simp [upd, Act.put, also, *]
            · exact hlow
          · intro D a w' K hClo hk0 hd hJ
            change D 13 = false at hk0
            obtain ⟨Bd, kd, rfl, hlow⟩ := hJ
            intro hK
            have e7 : D 7 = true := hd 7 (by decide)
            have e12 : D 12 = true := hd 12 (by decide)
            have n14 : D 14 = false := hClo.no 14 rfl (k := 13) (by decide) hk0
            have n24 : D 24 = false := hClo.no 24 rfl (k := 13) (by decide) hk0
            have n15 : D 15 = false := hClo.no 15 rfl (k := 14) (by decide) n14
            have n16 : D 16 = false := hClo.no 16 rfl (k := 14) (by decide) n14
            have n17 : D 17 = false := hClo.no 17 rfl (k := 14) (by decide) n14
            have n18 : D 18 = false := hClo.no 18 rfl (k := 14) (by decide) n14
            have n19 : D 19 = false := hClo.no 19 rfl (k := 14) (by decide) n14
            have n20 : D 20 = false := hClo.no 20 rfl (k := 14) (by decide) n14
            have n21 : D 21 = false := hClo.no 21 rfl (k := 17) (by decide) n17
            have n22 : D 22 = false := hClo.no 22 rfl (k := 21) (by decide) n21
            have n23 : D 23 = false := hClo.no 23 rfl (k := 21) (by decide) n21
            clear hClo hd
            simp only [upd, Act.put, List.setIfInBounds_toArray, List.set_cons_zero, List.set_cons_succ, e7, e12]
            go_wp2_with fail
            refine hK _ _ ⟨Bd, kd, ?_, ?_⟩
            · clear hK
              simp [upd, Act.put, also, *]
            · exact hlow
          · intro D a w' K hClo hk0 hd hJ
            change D 14 = false at hk0
            obtain ⟨Bd, kd, rfl, hlow⟩ := hJ
            intro hK
            have e11 : D 11 = true := hd 11 (by decide)
            have e13 : D 13 = true := hd 13 (by decide)
            have n15 : D 15 = false := hClo.no 15 rfl (k := 14) (by decide) hk0
            have n16 : D 16 = false := hClo.no 16 rfl (k := 14) (by decide) hk0
            have n17 : D 17 = false := hClo.no 17 rfl (k := 14) (by decide) hk0
            have n18 : D 18 = false := hClo.no 18 rfl (k := 14) (by decide) hk0
            have n19 : D 19 = false := hClo.no 19 rfl (k := 14) (by decide) hk0
            have n20 : D 20 = false := hClo.no 20 rfl (k := 14) (by decide) hk0
            have n24 : D 24 = false := hClo.no 24 rfl (k := 14) (by decide) hk0
            have n21 : D 21 = false := hClo.no 21 rfl (k := 17) (by decide) n17
            have n22 : D 22 = false := hClo.no 22 rfl (k := 21) (by decide) n21
            have n23 : D 23 = false := hClo.no 23 rfl (k := 21) (by decide) n21
            clear hClo hd
            simp only [upd, Act.put, List.setIfInBounds_toArray, List.set_cons_zero, List.set_cons_succ, e11, e13]
            go_wp2_with fail
            refine hK _ _ ⟨Bd, kd, ?_, ?_⟩
            · clear hK
              simp [upd, Act.put, also, *]
            · exact hlow
          · intro D a w' K hClo hk0 hd hJ
            change D 15 = false at hk0
            obtain ⟨Bd, kd, rfl, hlow⟩ := hJ
            intro hK
            have e14 : D 14 = true := hd 14 (by decide)
            have n17 : D 17 = false := hClo.no 17 rfl (k := 15) (by decide) hk0
            have n24 : D 24 = false := hClo.no 24 rfl (k := 15) (by decide) hk0
            have n18 : D 18 = false := hClo.no 18 rfl (k := 17) (by decide) n17
            have n21 : D 21 = false := hClo.no 21 rfl (k := 17) (by decide) n17
            have n19 : D 19 = false := hClo.no 19 rfl (k := 18) (by decide) n18
            have n22 : D 22 = false := hClo.no 22 rfl (k := 21) (by decide) n21
            have n23 : D 23 = false := hClo.no 23 rfl (k := 21) (by decide) n21
            have n20 : D 20 = false := hClo.no 20 rfl (k := 19) (by decide) n19
            clear hClo hd
            have y0 := (hlow.b.cell (p := ⟨ab, 0, none⟩) HXA.out.lt).trans (HXA.out.cell 0)
            have y1 := (hlow.b.cell (p := ⟨ab, 1, none⟩) HXA.out.lt).trans (HXA.out.cell 1)
            have y2 := (hlow.b.cell (p := ⟨ab, 2, none⟩) HXA.out.lt).trans (HXA.out.cell 2)
            have y3 := (hlow.b.cell (p := ⟨ab, 3, none⟩) HXA.out.lt).trans (HXA.out.cell 3)
            have y4 := (hlow.b.cell (p := ⟨ab, 4, none⟩) HXA.out.lt).trans (HXA.out.cell 4)
            have y5 := (hlow.b.cell (p := ⟨ab, 5, none⟩) HXA.out.lt).trans (HXA.out.cell 5)
            have y6 := (hlow.b.cell (p := ⟨ab, 6, none⟩) HXA.out.lt).trans (HXA.out.cell 6)
            simp only [List.getElem?_toArray, List.getElem?_cons_zero, List.getElem?_cons_succ] at y0 y1 y2 y3 y4 y5 y6
            simp only [upd, Act.put, List.setIfInBounds_toArray, List.set_cons_zero, List.set_cons_succ, e14]
            go_wp2_with fail
            refine hK _ _ ⟨Bd, kd, ?_, ?_⟩
            · clear hK
              simp [upd, Act.put, also, *]
            · exact hlow
          · intro D a w' K hClo hk0 hd hJ
            change D 16 = false at hk0
            obtain ⟨Bd, kd, rfl, hlow⟩ := hJ
            intro hK
            have e14 : D 14 = true := hd 14 (by decide)
            have n17 : D 17 = false := hClo.no 17 rfl (k := 16) (by decide) hk0
            have n24 : D 24 = false := hClo.no 24 rfl (k := 16) (by decide) hk0
            have n18 : D 18 = false := hClo.no 18 rfl (k := 17) (by decide) n17
            have n21 : D 21 = false := hClo.no 21 rfl (k := 17) (by decide) n17
            have n19 : D 19 = false := hClo.no 19 rfl (k := 18) (by decide) n18
            have n22 : D 22 = false := hClo.no 22 rfl (k := 21) (by decide) n21
            have n23 : D 23 = false := hClo.no 23 rfl (k := 21) (by decide) n21
            have n20 : D 20 = false := hClo.no 20 rfl (k := 19) (by decide) n19
            clear hClo hd
            have y0 := (hlow.b.cell (p := ⟨cx, 0, none⟩) HXC.out.lt).trans (HXC.out.cell 0)
            have y1 := (hlow.b.cell (p := ⟨cx, 1, none⟩) HXC.out.lt).trans (HXC.out.cell 1)
            have y2 := (hlow.b.cell (p := ⟨cx, 2, none⟩) HXC.out.lt).trans (HXC.out.cell 2)
            have y3 := (hlow.b.cell (p := ⟨cx, 3, none⟩) HXC.out.lt).trans (HXC.out.cell 3)
            have y4 := (hlow.b.cell (p := ⟨cx, 4, none⟩) HXC.out.lt).trans (HXC.out.cell 4)
            have y5 := (hlow.b.cell (p := ⟨cx, 5, none⟩) HXC.out.lt).trans (HXC.out.cell 5)
            have y6 := (hlow.b.cell (p := ⟨cx, 6, none⟩) HXC.out.lt).trans (HXC.out.cell 6)
            simp only [List.getElem?_toArray, List.getElem?_cons_zero, List.getElem?_cons_succ] at y0 y1 y2 y3 y4 y5 y6
            simp only [upd, Act.put, List.setIfInBounds_toArray, List.set_cons_zero, List.set_cons_succ, e14]
            go_wp2_with fail
            refine hK _ _ ⟨Bd, kd, ?_, ?_⟩
            · clear hK
              simp [upd, Act.put, also, *]
            · exact hlow
          · intro D a w' K hClo hk0 hd hJ
            change D 17 = false at hk0
            obtain ⟨Bd, kd, rfl, hlow⟩ := hJ
            intro hK
            have e14 : D 14 = true := hd 14 (by decide)
            have e15 : D 15 = true := hd 15 (by decide)
            have e16 : D 16 = true := hd 16 (by decide)
            have n18 : D 18 = false := hClo.no 18 rfl (k := 17) (by decide) hk0
            have n21 : D 21 = false := hClo.no 21 rfl (k := 17) (by decide) hk0
            have n24 : D 24 = false := hClo.no 24 rfl (k := 17) (by decide) hk0
            have n19 : D 19 = false := hClo.no 19 rfl (k := 18) (by decide) n18
            have n22 : D 22 = false := hClo.no 22 rfl (k := 21) (by decide) n21
            have n23 : D 23 = false := hClo.no 23 rfl (k := 21) (by decide) n21
            have n20 : D 20 = false := hClo.no 20 rfl (k := 19) (by decide) n19
            clear hClo hd
            have hcall := HD3.out w' hlow.b
            have HC := hide hcall
            clear hcall
            simp only [upd, Act.put, List.setIfInBounds_toArray, List.set_cons_zero, List.set_cons_succ, e14, e15, e16]
            go_wp2_with fail
            with_reducible refine HC.out.mono ?_
            rintro e w2 ⟨Aw, cw, rfl, hrw, hB2⟩
            go_wp2_with fail
            refine hK _ _ ⟨Aw, cw, ?_, ?_⟩
            · clear hK
              simp [upd, Act.put, also, *]
            · exact hlow.below hB2
          · intro D a w' K hClo hk0 hd hJ
            change D 18 = false at hk0
            obtain ⟨Bd, kd, rfl, hlow⟩ := hJ
            intro hK
            have e14 : D 14 = true := hd 14 (by decide)
            have e17 : D 17 = true := hd 17 (by decide)
            have n19 : D 19 = false := hClo.no 19 rfl (k := 18) (by decide) hk0
            have n24 : D 24 = false := hClo.no 24 rfl (k := 18) (by decide) hk0
            have n20 : D 20 = false := hClo.no 20 rfl (k := 19) (by decide) n19
            have n21 : D 21 = false := hClo.no 21 rfl (k := 20) (by decide) n20
            have n22 : D 22 = false := hClo.no 22 rfl (k := 21) (by decide) n21
            have n23 : D 23 = false := hClo.no 23 rfl (k := 21) (by decide) n21
            clear hClo hd
            simp only [upd, Act.put, List.setIfInBounds_toArray, List.set_cons_zero, List.set_cons_succ, e14, e17]
            go_wp2_with fail
            refine hK _ _ ⟨Bd, kd, ?_, ?_⟩
            · clear hK
              simp [upd, Act.put, also, *]
            · exact hlow
          · intro D a w' K hClo hk0 hd hJ
            change D 19 = false at hk0
            obtain ⟨Bd, kd, rfl, hlow⟩ := hJ
            intro hK
            have e14 : D 14 = true := hd 14 (by decide)
            have e18 : D 18 = true := hd 18 (by decide)
            have n20 : D 20 = false := hClo.no 20 rfl (k := 19) (by decide) hk0
            have n24 : D 24 = false := hClo.no 24 rfl (k := 19) (by decide) hk0
            have n21 : D 21 = false := hClo.no 21 rfl (k := 20) (by decide) n20
            have n22 : D 22 = false := hClo.no 22 rfl (k := 21) (by decide) n21
            have n23 : D 23 = false := hClo.no 23 rfl (k := 21) (by decide) n21
            clear hClo hd
            simp only [upd, Act.put, List.setIfInBounds_toArray, List.set_cons_zero, List.set_cons_succ, e14, e18]
            go_wp2_with fail
            refine hK _ _ ⟨Bd, kd, ?_, ?_⟩
            · clear hK
              simp [upd, Act.put, also, *]
            · exact hlow
          · intro D a w' K hClo hk0 hd hJ
            change D 20 = false at hk0
            obtain ⟨Bd, kd, rfl, hlow⟩ := hJ
            intro hK
            have e14 : D 14 = true := hd 14 (by decide)
            have e19 : D 19 = true := hd 19 (by decide)
            have n21 : D 21 = false := hClo.no 21 rfl (k := 20) (by decide) hk0
            have n24 : D 24 = false := hClo.no 24 rfl (k := 20) (by decide) hk0
            have n22 : D 22 = false := hClo.no 22 rfl (k := 21) (by decide) n21
            have n23 : D 23 = false := hClo.no 23 rfl (k := 21) (by decide) n21
            clear hClo hd
            simp only [upd, Act.put, List.setIfInBounds_toArray, List.set_cons_zero, List.set_cons_succ, e14, e19]
            go_wp2_with fail
            refine hK _ _ ⟨Bd, kd, ?_, ?_⟩
            · clear hK
              simp [upd, Act.put, also, *]
            · exact hlow
          · intro D a w' K hClo hk0 hd hJ
            change D 21 = false at hk0
            obtain ⟨Bd, kd, rfl, hlow⟩ := hJ
            intro hK
            have e17 : D 17 = true := hd 17 (by decide)
            have e20 : D 20 = true := hd 20 (by decide)
            have n22 : D 22 = false := hClo.no 22 rfl (k := 21) (by decide) hk0
            have n23 : D 23 = false := hClo.no 23 rfl (k := 21) (by decide) hk0
            have n24 : D 24 = false := hClo.no 24 rfl (k := 21) (by decide) hk0
            clear hClo hd
            simp only [upd, Act.put, List.setIfInBounds_toArray, List.set_cons_zero, List.set_cons_succ, e17, e20]
            go_wp2_with fail
            refine hK _ _ ⟨Bd, kd, ?_, ?_⟩
            · clear hK
              simp [upd, Act.put, also, *]
            · exact hlow
          · intro D a w' K hClo hk0 hd hJ
            change D 22 = false at hk0
            obtain ⟨Bd, kd, rfl, hlow⟩ := hJ
            intro hK
            have e21 : D 21 = true := hd 21 (by decide)
            have n23 : D 23 = false := hClo.no 23 rfl (k := 22) (by decide) hk0
            have n24 : D 24 = false := hClo.no 24 rfl (k := 22) (by decide) hk0
            clear hClo hd
            have hcall := awake_any w'
            have HC := hide hcall
            clear hcall
            simp only [upd, Act.put, List.setIfInBounds_toArray, List.set_cons_zero, List.set_cons_succ, e21]
            go_wp2_with fail
            with_reducible refine HC.out.mono ?_
            rintro e w2 ⟨rfl, hB2⟩
            go_wp2_with fail
            refine hK _ _ ⟨Bd, kd, ?_, ?_⟩
            · clear hK
              simp [upd, Act.put, also, *]
            · exact hlow.below hB2
          · intro D a w' K hClo hk0 hd hJ
            change D 23 = false at hk0
            obtain ⟨Bd, kd, rfl, hlow⟩ := hJ
            intro hK
            have e21 : D 21 = true := hd 21 (by decide)
            have e22 : D 22 = true := hd 22 (by decide)
            have n24 : D 24 = false := hClo.no 24 rfl (k := 23) (by decide) hk0
            clear hClo hd
            simp only [upd, Act.put, List.setIfInBounds_toArray, List.set_cons_zero, List.set_cons_succ, e21, e22]
            go_wp2_with fail
            refine hK _ _ ⟨Bd, kd, ?_, ?_⟩
            · clear hK
              simp [upd, Act.put, also, *]
            · exact hlow
          · intro D a w' K hClo hk0 hd hJ
            change D 24 = false at hk0
            obtain ⟨Bd, kd, rfl, hlow⟩ := hJ
            intro hK
            have e0 : D 0 = true := hd 0 (by decide)
            have e1 : D 1 = true := hd 1 (by decide)
            have e2 : D 2 = true := hd 2 (by decide)
            have e3 : D 3 = true := hd 3 (by decide)
            have e4 : D 4 = true := hd 4 (by decide)
            have e5 : D 5 = true := hd 5 (by decide)
            have e6 : D 6 = true := hd 6 (by decide)
            have e7 : D 7 = true := hd 7 (by decide)
            have e8 : D 8 = true := hd 8 (by decide)
            have e9 : D 9 = true := hd 9 (by decide)
            have e10 : D 10 = true := hd 10 (by decide)
            have e11 : D 11 = true := hd 11 (by decide)
            have e12 : D 12 = true := hd 12 (by decide)
            have e13 : D 13 = true := hd 13 (by decide)
            have e14 : D 14 = true := hd 14 (by decide)
            have e15 : D 15 = true := hd 15 (by decide)
            have e16 : D 16 = true := hd 16 (by decide)
            have e17 : D 17 = true := hd 17 (by decide)
            have e18 : D 18 = true := hd 18 (by decide)
            have e19 : D 19 = true := hd 19 (by decide)
            have e20 : D 20 = true := hd 20 (by decide)
            have e21 : D 21 = true := hd 21 (by decide)
            have e22 : D 22 = true := hd 22 (by decide)
            have e23 : D 23 = true := hd 23 (by decide)
            clear hClo hd
            simp only [upd, Act.put, List.setIfInBounds_toArray, List.set_cons_zero, List.set_cons_succ, e0, e1, e2, e3, e4, e5, e6, e7, e8, e9, e10, e11, e12, e13, e14, e15, e16, e17, e18, e19, e20, e21, e22, e23]
            go_wp2_with fail
            refine hK _ _ ⟨Bd, kd, ?_, ?_⟩
            · clear hK
              simp [upd, Act.put, also, *]
            · exact hlow
        · intro D a' w9 hall hJ
          obtain ⟨Bd, kd, rfl, hlow⟩ := hJ
          have e0 : D 0 = true := hall 0 (by decide)
          have e1 : D 1 = true := hall 1 (by decide)
          have e2 : D 2 = true := hall 2 (by decide)
          have e3 : D 3 = true := hall 3 (by decide)
          have e4 : D 4 = true := hall 4 (by decide)
          have e5 : D 5 = true := hall 5 (by decide)
          have e6 : D 6 = true := hall 6 (by decide)
          have e7 : D 7 = true := hall 7 (by decide)
          have e8 : D 8 = true := hall 8 (by decide)
          have e9 : D 9 = true := hall 9 (by decide)
          have e10 : D 10 = true := hall 10 (by decide)
          have e11 : D 11 = true := hall 11 (by decide)
          have e12 : D 12 = true := hall 12 (by decide)
          have e13 : D 13 = true := hall 13 (by decide)
          have e14 : D 14 = true := hall 14 (by decide)
          have e15 : D 15 = true := hall 15 (by decide)
          have e16 : D 16 = true := hall 16 (by decide)
          have e17 : D 17 = true := hall 17 (by decide)
          have e18 : D 18 = true := hall 18 (by decide)
          have e19 : D 19 = true := hall 19 (by decide)
          have e20 : D 20 = true := hall 20 (by decide)
          have e21 : D 21 = true := hall 21 (by decide)
          have e22 : D 22 = true := hall 22 (by decide)
          have e23 : D 23 = true := hall 23 (by decide)
          have e24 : D 24 = true := hall 24 (by decide)
          clear hall
          simp only [upd, Act.put, List.setIfInBounds_toArray, List.set_cons_zero, List.set_cons_succ, sel_true, e0, e1, e2, e3, e4, e5, e6, e7, e8, e9, e10, e11, e12, e13, e14, e15, e16, e17, e18, e19, e20, e21, e22, e23, e24]
          clear e0 e1 e2 e3 e4 e5 e6 e7 e8 e9 e10 e11 e12 e13 e14 e15 e16 e17 e18 e19 e20 e21 e22 e23 e24
          go_wp2_with fail
          go_ret
          exact ⟨rfl, HL7.out.b.trans (hlow.b.mono HL7.out.size)⟩
end Go.Proofs.YtjgbadopladmdaaDoor
