/- The law's walk of ProductDiffers. -/
import Derived.Test.YtjgbadopladmdaaDoorRDiffW
import Derived.Test.YtjgbadopladmdaaDoorSpoilW
import Derived.Test.YtjgbadopladmdaaDoorRawP
import Derived.Test.YtjgbadopladmdaaDoorDigW
namespace Go.Proofs.YtjgbadopladmdaaDoor
open Go.RowKit Go.Sort
open Rel (Lk)

/-- a slice of strings as it reads -/
structure StrR (w : World) (A : Option Addr) (N : List (List UInt8)) : Prop where
  r : Reads w w.heap.size 1 A N.length (N.map encStr)
theorem StrR.below {w w' : World} {A : Option Addr} {N : List (List UInt8)} (h : StrR w A N) (hb : Below w.heap.size w w') : StrR w' A N := ⟨(h.r.below hb).more hb.size⟩
theorem RowL.drewL {w : World} {base n : Nat} {A : Option Addr} {L : List Lk} (h : RowL w base A n L) : RowL w.drew base A n L := h.below (Below.refl _ _).drew
theorem Dif.dif_len (La Lb : List Lk) : (Dif.dif La Lb).length ≤ La.length + Lb.length := by
  unfold Dif.dif Dif.odd
  refine Nat.le_trans (Lib.compact_length_le _) ?_
  rw [List.length_mergeSort, List.length_map, List.length_append]
  exact Nat.add_le_add (List.length_filter_le _ _) (List.length_filter_le _ _)

set_option maxHeartbeats 8000000 in
set_option maxRecDepth 100000 in
theorem differs_law (p0 q0 : Pr) (A0 A8 A9 : Option Addr) (n0 c0 n8 c8 n9 c9 B : Nat) (L0 L8 : List Lk) (zs : List Int) (wz : World) (h0 : Reads wz B 2 A0 n0 (L0.flatMap lc)) (hl0 : n0 = L0.length) (hnc0 : n0 ≤ c0)
    (h8 : Reads wz B 2 A8 n8 (L8.flatMap lc)) (hl8 : n8 = L8.length) (hnc8 : n8 ≤ c8)
    (hr : Reads wz B 1 A9 n9 (zs.map (Value.int .i64))) (hB : B ≤ wz.heap.size) (hn : n9 ≤ maxLen) :
    Calls Tryd.prog 9 #[.agg (pv p0 (.slice A0 n0 c0)), .agg (pv q0 (.slice A8 n8 c8)), .slice A9 n9 c9] wz fun e w' => e = .returned (.bool true) ∧ Below wz.heap.size wz w' := by
  obtain ⟨id, cd, br, d, m, am⟩ := p0
  obtain ⟨id2, cd2, br2, dd2, mm2, am2⟩ := q0
  simp only [pv]
  have HL0 := hide hl0
  have HL8 := hide hl8
  clear hl0 hl8
  have hb2 := ((Below.refl wz.heap.size wz).alloc (Nat.le_refl _) (.cells #[.string id, .string cd, .string br, .int .i64 d, .int .i64 m, .int .i64 am, .slice A0 n0 c0] 50)).alloc (by simp) (.cells #[.string id2, .string cd2, .string br2, .int .i64 dd2, .int .i64 mm2, .int .i64 am2, .slice A8 n8 c8] 50)
  have hx := (Blk.new wz 50 #[.string id, .string cd, .string br, .int .i64 d, .int .i64 m, .int .i64 am, .slice A0 n0 c0]).alloc (.cells #[.string id2, .string cd2, .string br2, .int .i64 dd2, .int .i64 mm2, .int .i64 am2, .slice A8 n8 c8] 50)
  have hy := Blk.new (wz.alloc (.cells #[.string id, .string cd, .string br, .int .i64 d, .int .i64 m, .int .i64 am, .slice A0 n0 c0] 50)) 50 #[.string id2, .string cd2, .string br2, .int .i64 dd2, .int .i64 mm2, .int .i64 am2, .slice A8 n8 c8]
  rw [World.size_alloc] at hy
  have hzz := Nat.le_of_eq (show ((wz.alloc (.cells #[.string id, .string cd, .string br, .int .i64 d, .int .i64 m, .int .i64 am, .slice A0 n0 c0] 50)).alloc (.cells #[.string id2, .string cd2, .string br2, .int .i64 dd2, .int .i64 mm2, .int .i64 am2, .slice A8 n8 c8] 50)).heap.size = wz.heap.size + 2 by simp)
  go_enter Tryd.func9, Tryd.ntmps9
  go_upto_region 1 with (fail)
  generalize (wz.alloc (.cells #[.string id, .string cd, .string br, .int .i64 d, .int .i64 m, .int .i64 am, .slice A0 n0 c0] 50)).alloc (.cells #[.string id2, .string cd2, .string br2, .int .i64 dd2, .int .i64 mm2, .int .i64 am2, .slice A8 n8 c8] 50) = W at hb2 hx hy hzz ⊢
  have hzw := hb2.size
  have hxl := hx.lt
  have hyl := hy.lt
  have k0 := h0.below (hb2.mono hB)
  have k8 := h8.below (hb2.mono hB)
  have hrW := hr.below (hb2.mono hB)
  have hBW : B ≤ W.heap.size := by omega
  generalize hqe : wz.heap.size = bx at hx hy hzz hxl hyl ⊢
  have HQE := hide hqe
  have HB2 := hide hb2
  have H0 := hide h0
  have H8 := hide h8
  clear hqe hb2 h0 h8 hr
  have ht0 : Tape (W.alloc (.cells #[.slice A9 n9 c9, .int .i64 0] 34)) B W.heap.size 0 :=
    ⟨A9, n9, c9, 0, zs, Blk.new W 34 _, Nat.le_refl _, hrW.alloc hBW _, hBW, hn⟩
  have hbA := (Below.refl W.heap.size W).alloc (Nat.le_refl _) (.cells #[.slice A9 n9 c9, .int .i64 0] 34)
  have hxA := hx.alloc (.cells #[.slice A9 n9 c9, .int .i64 0] 34)
  have hyA := hy.alloc (.cells #[.slice A9 n9 c9, .int .i64 0] 34)
  have hzA := Nat.le_of_eq (show (W.alloc (.cells #[.slice A9 n9 c9, .int .i64 0] 34)).heap.size = W.heap.size + 1 by simp)
  have hzA' := Nat.le_of_eq (show W.heap.size + 1 = (W.alloc (.cells #[.slice A9 n9 c9, .int .i64 0] 34)).heap.size by simp)
  clear hrW hx hy
  go_upto_region 2 with (fail)
  generalize W.alloc (.cells #[.slice A9 n9 c9, .int .i64 0] 34) = WA at ht0 hbA hxA hyA hzA hzA' ⊢
  generalize hge : W.heap.size = g at ht0 hzA hzA' ⊢
  have HGE := hide hge
  have HBA := hide hbA
  have HXA := hide hxA
  have HYA := hide hyA
  have HT0 := hide ht0
  clear hge hbA hxA hyA
  have hsp := spoiled_any g 0 B WA ht0 (by omega)
  have HSP := hide hsp
  clear hsp ht0
  go_wp2_with fail
  with_reducible refine HSP.out.mono ?_
  rintro e w1 ⟨p1, A1, n1, c1, L1, rfl, hr1, hn1, hnc1, hcd1, hbr1, hs1, htap1⟩
  have hsp := spoiled_any g 9 B w1 htap1.tape (by omega)
  have HSP := hide hsp
  have HR1 := hide hr1
  have HTAP1 := hide htap1
  clear hsp hr1 htap1
  obtain ⟨i1, d1, r1, f1, m1, a1⟩ := p1
  simp only [pv]
  go_wp2_with fail
  with_reducible refine HSP.out.mono ?_
  rintro e w2 ⟨p2, A2, n2, c2, L2, rfl, hr2, hn2, hnc2, hcd2, hbr2, hs2, htap2⟩
  obtain ⟨i2, d2, r2, f2, m2, a2⟩ := p2
  simp only [pv]
  go_upto_region 3 with (fail)
  have hgg := HGE.out
  have hqq := HQE.out
  have hz1 := HTAP1.out.size
  have hz2 := htap2.size
  have hg2 := HTAP1.out.grow.trans htap2.grow
  have hbz : Below wz.heap.size wz WA := HB2.out.trans (HBA.out.mono hzw)
  have hbz2 : Below wz.heap.size wz w2 := hbz.grown hg2 hbz.size (fun x hx => by have := Option.some.inj hx; omega)
  have hxx2 : Has wz w2 bx 50 #[.string id, .string cd, .string br, .int .i64 d, .int .i64 m, .int .i64 am, .slice A0 n0 c0] := ⟨by omega, HXA.out.grown hg2 (fun e => by have := Option.some.inj e; omega)⟩
  have hyy2 : Has wz w2 (bx + 1) 50 #[.string id2, .string cd2, .string br2, .int .i64 dd2, .int .i64 mm2, .int .i64 am2, .slice A8 n8 c8] := ⟨by omega, HYA.out.grown hg2 (fun e => by have := Option.some.inj e; omega)⟩
  obtain ⟨_, _, _, _, _, hgb, _⟩ := HTAP1.out.tape
  have hra2 : RowL w2 wz.heap.size A1 n1 L1 := (HR1.out.grown htap2.grow (fun b' _ hb' e => hb'.ne_ hgb (by decide) (Option.some.inj e))).base_ hbz.size
  have hrb2 : RowL w2 wz.heap.size A2 n2 L2 := hr2.base_ (Nat.le_trans hbz.size hz1)
  have Hlow0 := hide ((show Low wz w2 from ⟨hbz2⟩).alloc (.cells #[.string i1, .string d1, .string r1, .int .i64 f1, .int .i64 m1, .int .i64 a1, .slice A1 n1 c1] 50) |>.alloc (.cells #[.string i2, .string d2, .string r2, .int .i64 f2, .int .i64 m2, .int .i64 a2, .slice A2 n2 c2] 50))
  have Hbx0 := hide ((hxx2.alloc (.cells #[.string i1, .string d1, .string r1, .int .i64 f1, .int .i64 m1, .int .i64 a1, .slice A1 n1 c1] 50)).alloc (.cells #[.string i2, .string d2, .string r2, .int .i64 f2, .int .i64 m2, .int .i64 a2, .slice A2 n2 c2] 50))
  have Hby0 := hide ((hyy2.alloc (.cells #[.string i1, .string d1, .string r1, .int .i64 f1, .int .i64 m1, .int .i64 a1, .slice A1 n1 c1] 50)).alloc (.cells #[.string i2, .string d2, .string r2, .int .i64 f2, .int .i64 m2, .int .i64 a2, .slice A2 n2 c2] 50))
  have Hsa0 := hide ((Has.new (w0 := wz) (w := w2) hbz2.size 50 #[.string i1, .string d1, .string r1, .int .i64 f1, .int .i64 m1, .int .i64 a1, .slice A1 n1 c1]).alloc (.cells #[.string i2, .string d2, .string r2, .int .i64 f2, .int .i64 m2, .int .i64 a2, .slice A2 n2 c2] 50))
  have hsb0 := Has.new (w0 := wz) (w := w2.alloc (.cells #[.string i1, .string d1, .string r1, .int .i64 f1, .int .i64 m1, .int .i64 a1, .slice A1 n1 c1] 50)) (Nat.le_trans hbz2.size (by simp)) 50 #[.string i2, .string d2, .string r2, .int .i64 f2, .int .i64 m2, .int .i64 a2, .slice A2 n2 c2]
  rw [World.size_alloc] at hsb0
  have Hsb0 := hide hsb0
  have Hra0 := hide ((hra2.alloc (.cells #[.string i1, .string d1, .string r1, .int .i64 f1, .int .i64 m1, .int .i64 a1, .slice A1 n1 c1] 50)).alloc (.cells #[.string i2, .string d2, .string r2, .int .i64 f2, .int .i64 m2, .int .i64 a2, .slice A2 n2 c2] 50))
  have Hrb0 := hide ((hrb2.alloc (.cells #[.string i1, .string d1, .string r1, .int .i64 f1, .int .i64 m1, .int .i64 a1, .slice A1 n1 c1] 50)).alloc (.cells #[.string i2, .string d2, .string r2, .int .i64 f2, .int .i64 m2, .int .i64 a2, .slice A2 n2 c2] 50))
  have hbb : bx + 1 < w2.heap.size := by omega
  have hwz : wz.heap.size ≤ w2.heap.size := hbz2.size
  clear hgb hqq hgg hxx2 hyy2 hra2 hrb2 hsb0 hbz2 hbz hg2 hr2 htap2 HTAP1 HR1 HSP HXA HYA HBA HT0 hcd1 hcd2 hbr1 hbr2 k0 k8
  generalize (w2.alloc (.cells #[.string i1, .string d1, .string r1, .int .i64 f1, .int .i64 m1, .int .i64 a1, .slice A1 n1 c1] 50)).alloc (.cells #[.string i2, .string d2, .string r2, .int .i64 f2, .int .i64 m2, .int .i64 a2, .slice A2 n2 c2] 50) = w20 at Hlow0 Hbx0 Hby0 Hsa0 Hsb0 Hra0 Hrb0 ⊢
  generalize w2.heap.size = b1 at Hsa0 Hsb0 hbb hwz ⊢
  refine wp_region_each (fun a0 D a w => ∃ (pi1 : ByteArray) (pi2 : ByteArray) (pi3 : ByteArray) (pf1 : Int) (pf2 : Int) (pf3 : Int) (Aq : Option Addr) (nuq : Nat) (cuq : Nat) (Lq : List Lk) (qi1 : ByteArray) (qi2 : ByteArray) (qi3 : ByteArray) (qf1 : Int) (qf2 : Int) (qf3 : Int) (Ar : Option Addr) (nur : Nat) (cur : Nat) (Lr : List Lk), a = upd a0 [(18, sel (D 0) (.agg #[.string id, .string cd, .string br, .int .i64 d, .int .i64 m, .int .i64 am, .slice A0 n0 c0]) undef), (19, sel (D 1) (.agg #[.string pi1, .string pi2, .string pi3, .int .i64 pf1, .int .i64 pf2, .int .i64 pf3, .slice Aq nuq cuq]) undef), (20, sel (D 2) (.agg #[.string id2, .string cd2, .string br2, .int .i64 dd2, .int .i64 mm2, .int .i64 am2, .slice A8 n8 c8]) undef), (21, sel (D 3) (.agg #[.string qi1, .string qi2, .string qi3, .int .i64 qf1, .int .i64 qf2, .int .i64 qf3, .slice Ar nur cur]) undef)] ∧ (Low wz w) ∧ (Has wz w bx 50 (bif D 4 then #[.string pi1, .string pi2, .string pi3, .int .i64 pf1, .int .i64 pf2, .int .i64 pf3, .slice Aq nuq cuq] else #[.string id, .string cd, .string br, .int .i64 d, .int .i64 m, .int .i64 am, .slice A0 n0 c0])) ∧ (Has wz w (bx + 1) 50 (bif D 5 then #[.string qi1, .string qi2, .string qi3, .int .i64 qf1, .int .i64 qf2, .int .i64 qf3, .slice Ar nur cur] else #[.string id2, .string cd2, .string br2, .int .i64 dd2, .int .i64 mm2, .int .i64 am2, .slice A8 n8 c8])) ∧ (Has wz w b1 50 #[.string i1, .string d1, .string r1, .int .i64 f1, .int .i64 m1, .int .i64 a1, .slice A1 n1 c1]) ∧ (Has wz w (b1 + 1) 50 #[.string i2, .string d2, .string r2, .int .i64 f2, .int .i64 m2, .int .i64 a2, .slice A2 n2 c2]) ∧ (RowL w wz.heap.size A1 n1 L1) ∧ (RowL w wz.heap.size A2 n2 L2) ∧ (D 1 = true → RowL w wz.heap.size Aq nuq Lq) ∧ (D 1 = true → nuq ≤ 14 ∧ ∀ r ∈ Lq, r.1.size ≤ 30 ∧ r.2.size ≤ 30) ∧ (D 3 = true → RowL w wz.heap.size Ar nur Lr) ∧ (D 3 = true → nur ≤ 14 ∧ ∀ r ∈ Lr, r.1.size ≤ 30 ∧ r.2.size ≤ 30)) (by kernel_rfl) (by kernel_rfl) ?_ ?_ ?_
  · refine ⟨⟨#[]⟩, ⟨#[]⟩, ⟨#[]⟩, 0, 0, 0, none, 0, 0, [], ⟨#[]⟩, ⟨#[]⟩, ⟨#[]⟩, 0, 0, 0, none, 0, 0, [], ?_, Hlow0.out.drew, Hbx0.out.drew, Hby0.out.drew, Hsa0.out.drew, Hsb0.out.drew, Hra0.out.drewL, Hrb0.out.drewL, fun h => Bool.noConfusion h, fun h => Bool.noConfusion h, fun h => Bool.noConfusion h, fun h => Bool.noConfusion h⟩
    simp [upd, Act.put]
  · refine ⟨?_, ?_, ?_, ?_, ?_, ?_, trivial⟩
    · intro D a w' K hClo hk0 hd hJ
      change D 0 = false at hk0
      obtain ⟨pi1, pi2, pi3, pf1, pf2, pf3, Aq, nuq, cuq, Lq, qi1, qi2, qi3, qf1, qf2, qf3, Ar, nur, cur, Lr, rfl, hlow, hbxx, hbyy, hsa, hsb, hra, hrb, hrq, hpq, hrr, hpr⟩ := hJ
      intro hK
      have n1 : D 1 = false := hClo.no 1 rfl (k := 0) (by decide) hk0
      have n4 : D 4 = false := hClo.no 4 rfl (k := 0) (by decide) hk0
      have n5 : D 5 = false := hClo.no 5 rfl (k := 0) (by decide) hk0
      have n3 : D 3 = false := hClo.no 3 rfl (k := 1) (by decide) n1
      clear hClo hd
      have hb1 := (show Has wz w' bx 50 #[.string id, .string cd, .string br, .int .i64 d, .int .i64 m, .int .i64 am, .slice A0 n0 c0] from hbxx.of_eq (by rw [n4]; rfl))
      have y0 := hb1.cell 0
      have y1 := hb1.cell 1
      have y2 := hb1.cell 2
      have y3 := hb1.cell 3
      have y4 := hb1.cell 4
      have y5 := hb1.cell 5
      have y6 := hb1.cell 6
      simp only [List.getElem?_toArray, List.getElem?_cons_zero, List.getElem?_cons_succ] at y0 y1 y2 y3 y4 y5 y6
      clear hb1
      simp only [upd, Act.put, List.setIfInBounds_toArray, List.set_cons_zero, List.set_cons_succ]
      go_wp2_with fail
      refine hK _ _ ⟨pi1, pi2, pi3, pf1, pf2, pf3, Aq, nuq, cuq, Lq, qi1, qi2, qi3, qf1, qf2, qf3, Ar, nur, cur, Lr, ?_, ?_, ?_, ?_, ?_, ?_, ?_, ?_, ?_, ?_, ?_, ?_⟩
      · clear hK
        simp [upd, Act.put, also, *]
      · exact hlow
      · exact (hbxx).of_eq (by simp [also, *])
      · exact (hbyy).of_eq (by simp [also, *])
      · exact hsa
      · exact hsb
      · exact hra
      · exact hrb
      · exact fun h => by simp [also, *] at h
      · exact fun h => by simp [also, *] at h
      · exact fun h => by simp [also, *] at h
      · exact fun h => by simp [also, *] at h
    · intro D a w' K hClo hk0 hd hJ
      change D 1 = false at hk0
      obtain ⟨pi1, pi2, pi3, pf1, pf2, pf3, Aq, nuq, cuq, Lq, qi1, qi2, qi3, qf1, qf2, qf3, Ar, nur, cur, Lr, rfl, hlow, hbxx, hbyy, hsa, hsb, hra, hrb, hrq, hpq, hrr, hpr⟩ := hJ
      intro hK
      have e0 : D 0 = true := hd 0 (by decide)
      have n3 : D 3 = false := hClo.no 3 rfl (k := 1) (by decide) hk0
      have n4 : D 4 = false := hClo.no 4 rfl (k := 1) (by decide) hk0
      have n5 : D 5 = false := hClo.no 5 rfl (k := 1) (by decide) hk0
      clear hClo hd
      have hcall := rawp_any ⟨id, cd, br, d, m, am⟩ A0 n0 c0 B L0 w' (H0.out.below (hlow.b.mono hB)) HL0.out (Nat.le_trans hB hlow.size) hnc0
      simp only [pv] at hcall
      have HC := hide hcall
      have hsz0 := hlow.size
      clear hcall
      simp only [upd, Act.put, List.setIfInBounds_toArray, List.set_cons_zero, List.set_cons_succ, e0]
      go_wp2_with fail
      with_reducible refine HC.out.mono ?_
      rintro e w2 ⟨⟨j1, j2, j3, z1, z2, z3⟩, Aw, cw, nw, Lw, rfl, hnw, hncw, hrw, hcdw, hbrw, hsw, hB2⟩
      simp only [pv]
      go_wp2_with fail
      refine hK _ _ ⟨j1, j2, j3, z1, z2, z3, Aw, nw, cw, Lw, qi1, qi2, qi3, qf1, qf2, qf3, Ar, nur, cur, Lr, ?_, ?_, ?_, ?_, ?_, ?_, ?_, ?_, ?_, ?_, ?_, ?_⟩
      · clear hK
        simp [upd, Act.put, also, *]
      · exact hlow.below hB2
      · exact (hbxx.below hB2).of_eq (by simp [also, *])
      · exact (hbyy.below hB2).of_eq (by simp [also, *])
      · exact hsa.below hB2
      · exact hsb.below hB2
      · exact hra.below hB2
      · exact hrb.below hB2
      · exact fun _ => hrw.base_ hsz0
      · exact fun _ => ⟨hnw, hsw⟩
      · exact fun h => by simp [also, *] at h
      · exact fun h => by simp [also, *] at h
    · intro D a w' K hClo hk0 hd hJ
      change D 2 = false at hk0
      obtain ⟨pi1, pi2, pi3, pf1, pf2, pf3, Aq, nuq, cuq, Lq, qi1, qi2, qi3, qf1, qf2, qf3, Ar, nur, cur, Lr, rfl, hlow, hbxx, hbyy, hsa, hsb, hra, hrb, hrq, hpq, hrr, hpr⟩ := hJ
      intro hK
      have n3 : D 3 = false := hClo.no 3 rfl (k := 2) (by decide) hk0
      have n5 : D 5 = false := hClo.no 5 rfl (k := 2) (by decide) hk0
      have n4 : D 4 = false := hClo.no 4 rfl (k := 3) (by decide) n3
      clear hClo hd
      have hb1 := (show Has wz w' (bx + 1) 50 #[.string id2, .string cd2, .string br2, .int .i64 dd2, .int .i64 mm2, .int .i64 am2, .slice A8 n8 c8] from hbyy.of_eq (by rw [n5]; rfl))
      have y0 := hb1.cell 0
      have y1 := hb1.cell 1
      have y2 := hb1.cell 2
      have y3 := hb1.cell 3
      have y4 := hb1.cell 4
      have y5 := hb1.cell 5
      have y6 := hb1.cell 6
      simp only [List.getElem?_toArray, List.getElem?_cons_zero, List.getElem?_cons_succ] at y0 y1 y2 y3 y4 y5 y6
      clear hb1
      simp only [upd, Act.put, List.setIfInBounds_toArray, List.set_cons_zero, List.set_cons_succ]
      go_wp2_with fail
      refine hK _ _ ⟨pi1, pi2, pi3, pf1, pf2, pf3, Aq, nuq, cuq, Lq, qi1, qi2, qi3, qf1, qf2, qf3, Ar, nur, cur, Lr, ?_, ?_, ?_, ?_, ?_, ?_, ?_, ?_, ?_, ?_, ?_, ?_⟩
      · clear hK
        simp [upd, Act.put, also, *]
      · exact hlow
      · exact (hbxx).of_eq (by simp [also, *])
      · exact (hbyy).of_eq (by simp [also, *])
      · exact hsa
      · exact hsb
      · exact hra
      · exact hrb
      · exact fun h => (hrq (by simpa [also] using h))
      · exact fun h => (hpq (by simpa [also] using h))
      · exact fun h => by simp [also, *] at h
      · exact fun h => by simp [also, *] at h
    · intro D a w' K hClo hk0 hd hJ
      change D 3 = false at hk0
      obtain ⟨pi1, pi2, pi3, pf1, pf2, pf3, Aq, nuq, cuq, Lq, qi1, qi2, qi3, qf1, qf2, qf3, Ar, nur, cur, Lr, rfl, hlow, hbxx, hbyy, hsa, hsb, hra, hrb, hrq, hpq, hrr, hpr⟩ := hJ
      intro hK
      have e1 : D 1 = true := hd 1 (by decide)
      have e2 : D 2 = true := hd 2 (by decide)
      have n4 : D 4 = false := hClo.no 4 rfl (k := 3) (by decide) hk0
      have n5 : D 5 = false := hClo.no 5 rfl (k := 3) (by decide) hk0
      clear hClo hd
      have hcall := rawp_any ⟨id2, cd2, br2, dd2, mm2, am2⟩ A8 n8 c8 B L8 w' (H8.out.below (hlow.b.mono hB)) HL8.out (Nat.le_trans hB hlow.size) hnc8
      simp only [pv] at hcall
      have HC := hide hcall
      have hsz0 := hlow.size
      clear hcall
      simp only [upd, Act.put, List.setIfInBounds_toArray, List.set_cons_zero, List.set_cons_succ, e1, e2]
      go_wp2_with fail
      with_reducible refine HC.out.mono ?_
      rintro e w2 ⟨⟨j1, j2, j3, z1, z2, z3⟩, Aw, cw, nw, Lw, rfl, hnw, hncw, hrw, hcdw, hbrw, hsw, hB2⟩
      simp only [pv]
      go_wp2_with fail
      refine hK _ _ ⟨pi1, pi2, pi3, pf1, pf2, pf3, Aq, nuq, cuq, Lq, j1, j2, j3, z1, z2, z3, Aw, nw, cw, Lw, ?_, ?_, ?_, ?_, ?_, ?_, ?_, ?_, ?_, ?_, ?_, ?_⟩
      · clear hK
        simp [upd, Act.put, also, *]
      · exact hlow.below hB2
      · exact (hbxx.below hB2).of_eq (by simp [also, *])
      · exact (hbyy.below hB2).of_eq (by simp [also, *])
      · exact hsa.below hB2
      · exact hsb.below hB2
      · exact hra.below hB2
      · exact hrb.below hB2
      · exact fun h => (hrq (by simpa [also] using h)).below hB2
      · exact fun h => (hpq (by simpa [also] using h))
      · exact fun _ => hrw.base_ hsz0
      · exact fun _ => ⟨hnw, hsw⟩
    · intro D a w' K hClo hk0 hd hJ
      change D 4 = false at hk0
      obtain ⟨pi1, pi2, pi3, pf1, pf2, pf3, Aq, nuq, cuq, Lq, qi1, qi2, qi3, qf1, qf2, qf3, Ar, nur, cur, Lr, rfl, hlow, hbxx, hbyy, hsa, hsb, hra, hrb, hrq, hpq, hrr, hpr⟩ := hJ
      intro hK
      have e0 : D 0 = true := hd 0 (by decide)
      have e1 : D 1 = true := hd 1 (by decide)
      have e3 : D 3 = true := hd 3 (by decide)
      have n5 : D 5 = false := hClo.no 5 rfl (k := 4) (by decide) hk0
      clear hClo hd
      have hbk1 : Has wz w' bx 50 #[.string id, .string cd, .string br, .int .i64 d, .int .i64 m, .int .i64 am, .slice A0 n0 c0] := hbxx.of_eq (by rw [hk0]; rfl)
      have hge := hbk1.ge
      have c0' := hbk1.cell 0
      have f0' := hbk1.frozen 0
      have c1' := hbk1.cell 1
      have f1' := hbk1.frozen 1
      have c2' := hbk1.cell 2
      have f2' := hbk1.frozen 2
      have c3' := hbk1.cell 3
      have f3' := hbk1.frozen 3
      have c4' := hbk1.cell 4
      have f4' := hbk1.frozen 4
      have c5' := hbk1.cell 5
      have f5' := hbk1.frozen 5
      have c6' := hbk1.cell 6
      have f6' := hbk1.frozen 6
      simp only [List.getElem?_toArray, List.getElem?_cons_zero, List.getElem?_cons_succ] at c0' c1' c2' c3' c4' c5' c6'
      have Hbk := hide hbk1
      clear hbk1 hbxx
      simp only [upd, Act.put, List.setIfInBounds_toArray, List.set_cons_zero, List.set_cons_succ, e0, e1, e3]
      go_wp2_with fail
      refine hK _ _ ⟨pi1, pi2, pi3, pf1, pf2, pf3, Aq, nuq, cuq, Lq, qi1, qi2, qi3, qf1, qf2, qf3, Ar, nur, cur, Lr, ?_, ?_, ?_, ?_, ?_, ?_, ?_, ?_, ?_, ?_, ?_, ?_⟩
      · clear hK
        simp [upd, Act.put, also, *]
      · iterate 7 (refine Low.far ?_ hge _)
        exact hlow
      · exact (((((((Hbk.out.set_ 0 _).set_ 1 _).set_ 2 _).set_ 3 _).set_ 4 _).set_ 5 _).set_ 6 _).of_eq (by simp [also])
      · refine Has.of_eq (cs := #[.string id2, .string cd2, .string br2, .int .i64 dd2, .int .i64 mm2, .int .i64 am2, .slice A8 n8 c8]) ?_ (by simp [also, *])
        iterate 7 (refine Has.far ?_ (show (bx : Nat) ≠ bx + 1 by omega) _)
        exact hbyy.of_eq (by simp [*])
      · iterate 7 (refine Has.far ?_ (show (bx : Nat) ≠ b1 by omega) _)
        exact hsa
      · iterate 7 (refine Has.far ?_ (show (bx : Nat) ≠ b1 + 1 by omega) _)
        exact hsb
      · exact rowl_far7 hra (fun b e hn => hra.ne_ hn Hbk.out.blk (by decide) b e) _ _ _ _ _ _ _
      · exact rowl_far7 hrb (fun b e hn => hrb.ne_ hn Hbk.out.blk (by decide) b e) _ _ _ _ _ _ _
      · exact fun _ => rowl_far7 (hrq e1) (fun b e hn => (hrq e1).ne_ hn Hbk.out.blk (by decide) b e) _ _ _ _ _ _ _
      · exact fun h => (hpq (by simpa [also] using h))
      · exact fun _ => rowl_far7 (hrr e3) (fun b e hn => (hrr e3).ne_ hn Hbk.out.blk (by decide) b e) _ _ _ _ _ _ _
      · exact fun h => (hpr (by simpa [also] using h))
    · intro D a w' K hClo hk0 hd hJ
      change D 5 = false at hk0
      obtain ⟨pi1, pi2, pi3, pf1, pf2, pf3, Aq, nuq, cuq, Lq, qi1, qi2, qi3, qf1, qf2, qf3, Ar, nur, cur, Lr, rfl, hlow, hbxx, hbyy, hsa, hsb, hra, hrb, hrq, hpq, hrr, hpr⟩ := hJ
      intro hK
      have e0 : D 0 = true := hd 0 (by decide)
      have e1 : D 1 = true := hd 1 (by decide)
      have e2 : D 2 = true := hd 2 (by decide)
      have e3 : D 3 = true := hd 3 (by decide)
      have e4 : D 4 = true := hd 4 (by decide)
      clear hClo hd
      have hbk1 : Has wz w' (bx + 1) 50 #[.string id2, .string cd2, .string br2, .int .i64 dd2, .int .i64 mm2, .int .i64 am2, .slice A8 n8 c8] := hbyy.of_eq (by rw [hk0]; rfl)
      have hge := hbk1.ge
      have c0' := hbk1.cell 0
      have f0' := hbk1.frozen 0
      have c1' := hbk1.cell 1
      have f1' := hbk1.frozen 1
      have c2' := hbk1.cell 2
      have f2' := hbk1.frozen 2
      have c3' := hbk1.cell 3
      have f3' := hbk1.frozen 3
      have c4' := hbk1.cell 4
      have f4' := hbk1.frozen 4
      have c5' := hbk1.cell 5
      have f5' := hbk1.frozen 5
      have c6' := hbk1.cell 6
      have f6' := hbk1.frozen 6
      simp only [List.getElem?_toArray, List.getElem?_cons_zero, List.getElem?_cons_succ] at c0' c1' c2' c3' c4' c5' c6'
      have Hbk := hide hbk1
      clear hbk1 hbyy
      simp only [upd, Act.put, List.setIfInBounds_toArray, List.set_cons_zero, List.set_cons_succ, e0, e1, e2, e3]
      go_wp2_with fail
      refine hK _ _ ⟨pi1, pi2, pi3, pf1, pf2, pf3, Aq, nuq, cuq, Lq, qi1, qi2, qi3, qf1, qf2, qf3, Ar, nur, cur, Lr, ?_, ?_, ?_, ?_, ?_, ?_, ?_, ?_, ?_, ?_, ?_, ?_⟩
      · clear hK
        simp [upd, Act.put, also, *]
      · iterate 7 (refine Low.far ?_ hge _)
        exact hlow
      · refine Has.of_eq (cs := #[.string pi1, .string pi2, .string pi3, .int .i64 pf1, .int .i64 pf2, .int .i64 pf3, .slice Aq nuq cuq]) ?_ (by simp [also, *])
        iterate 7 (refine Has.far ?_ (show ((bx + 1) : Nat) ≠ bx by omega) _)
        exact hbxx.of_eq (by simp [*])
      · exact (((((((Hbk.out.set_ 0 _).set_ 1 _).set_ 2 _).set_ 3 _).set_ 4 _).set_ 5 _).set_ 6 _).of_eq (by simp [also])
      · iterate 7 (refine Has.far ?_ (show ((bx + 1) : Nat) ≠ b1 by omega) _)
        exact hsa
      · iterate 7 (refine Has.far ?_ (show ((bx + 1) : Nat) ≠ b1 + 1 by omega) _)
        exact hsb
      · exact rowl_far7 hra (fun b e hn => hra.ne_ hn Hbk.out.blk (by decide) b e) _ _ _ _ _ _ _
      · exact rowl_far7 hrb (fun b e hn => hrb.ne_ hn Hbk.out.blk (by decide) b e) _ _ _ _ _ _ _
      · exact fun _ => rowl_far7 (hrq e1) (fun b e hn => (hrq e1).ne_ hn Hbk.out.blk (by decide) b e) _ _ _ _ _ _ _
      · exact fun h => (hpq (by simpa [also] using h))
      · exact fun _ => rowl_far7 (hrr e3) (fun b e hn => (hrr e3).ne_ hn Hbk.out.blk (by decide) b e) _ _ _ _ _ _ _
      · exact fun h => (hpr (by simpa [also] using h))
  · intro D a' w3 hall hJ
    obtain ⟨pi1, pi2, pi3, pf1, pf2, pf3, Aq, nuq, cuq, Lq, qi1, qi2, qi3, qf1, qf2, qf3, Ar, nur, cur, Lr, rfl, hlow, hbxx, hbyy, hsa, hsb, hra, hrb, hrq, hpq, hrr, hpr⟩ := hJ
    have e0 : D 0 = true := hall 0 (by decide)
    have e1 : D 1 = true := hall 1 (by decide)
    have e2 : D 2 = true := hall 2 (by decide)
    have e3 : D 3 = true := hall 3 (by decide)
    have e4 : D 4 = true := hall 4 (by decide)
    have e5 : D 5 = true := hall 5 (by decide)
    clear hall
    replace hbxx : Has wz w3 bx 50 #[.string pi1, .string pi2, .string pi3, .int .i64 pf1, .int .i64 pf2, .int .i64 pf3, .slice Aq nuq cuq] := hbxx.of_eq (by simp [*])
    replace hbyy : Has wz w3 (bx + 1) 50 #[.string qi1, .string qi2, .string qi3, .int .i64 qf1, .int .i64 qf2, .int .i64 qf3, .slice Ar nur cur] := hbyy.of_eq (by simp [*])
    replace hrq := hrq e1
    replace hpq := hpq e1
    replace hrr := hrr e3
    replace hpr := hpr e3
    simp only [upd, Act.put, List.setIfInBounds_toArray, List.set_cons_zero, List.set_cons_succ, sel_true, e0, e1, e2, e3]
    clear e0 e1 e2 e3 e4 e5
    have hzl := hlow.size
    obtain ⟨hnq, hsq⟩ := hpq
    obtain ⟨hnr, hsr⟩ := hpr
    have wide : ∀ {L : List Lk}, (∀ r ∈ L, r.1.size ≤ 30 ∧ r.2.size ≤ 30) → ∀ r ∈ L, r.1.size ≤ 1000 ∧ r.2.size ≤ 1000 := fun h r hr => ⟨Nat.le_trans (h r hr).1 (by decide), Nat.le_trans (h r hr).2 (by decide)⟩
    have e1 := hra.recs (by omega)
    have e2 := hrb.recs (by omega)
    have hdd := differences_any ⟨i1, d1, r1, f1, m1, a1⟩ ⟨i2, d2, r2, f2, m2, a2⟩ A1 A2 n1 c1 n2 c2 w3.heap.size L1 L2 w3 e1 e2 (Nat.le_refl _) (by omega) (by omega) (wide hs1) (wide hs2)
    simp only [pv] at hdd
    have HDD := hide hdd
    have y0 := hsa.cell 0
    have y1 := hsa.cell 1
    have y2 := hsa.cell 2
    have y3 := hsa.cell 3
    have y4 := hsa.cell 4
    have y5 := hsa.cell 5
    have y6 := hsa.cell 6
    have z0 := hsb.cell 0
    have z1 := hsb.cell 1
    have z2 := hsb.cell 2
    have z3 := hsb.cell 3
    have z4 := hsb.cell 4
    have z5 := hsb.cell 5
    have z6 := hsb.cell 6
    simp only [List.getElem?_toArray, List.getElem?_cons_zero, List.getElem?_cons_succ] at y0 y1 y2 y3 y4 y5 y6 z0 z1 z2 z3 z4 z5 z6
    have HRA := hide hra
    have HRB := hide hrb
    have HRQ := hide hrq
    have HRR := hide hrr
    have HBX := hide hbxx
    have HBY := hide hbyy
    have HSA := hide hsa
    have HSB := hide hsb
    have HLOW := hide hlow
    clear hdd hra hrb hrq hrr hbxx hbyy hsa hsb hlow e1 e2
    go_wp2_with fail
    with_reducible refine HDD.out.mono ?_
    rintro e W4 ⟨Ad, cdd, rfl, hrd, hb4⟩
    go_upto_region 5 with (fail)
    clear y0 y1 y2 y3 y4 y5 y6 z0 z1 z2 z3 z4 z5 z6 HDD
    have hlq : Lq.length = nuq := HRQ.out.len
    have hlr : Lr.length = nur := HRR.out.len
    have hl1' : L1.length = n1 := HRA.out.len
    have hl2' : L2.length = n2 := HRB.out.len
    have hNQ : (Dif.dif Lq Lr).length ≤ 1000 := Nat.le_trans (Dif.dif_len Lq Lr) (by omega)
    have hNP : (Dif.dif L1 L2).length ≤ 1000 := Nat.le_trans (Dif.dif_len L1 L2) (by omega)
    clear hlq hlr hl1' hl2'
    have r1' := (HRA.out.below hb4).recs (by omega)
    have r2' := (HRB.out.below hb4).recs (by omega)
    have r3' := (HRQ.out.below hb4).recs (by omega)
    have r4' := (HRR.out.below hb4).recs (by omega)
    have hCA := fun (w' : World) (hb : Below W4.heap.size W4 w') => differences_any ⟨pi1, pi2, pi3, pf1, pf2, pf3⟩ ⟨qi1, qi2, qi3, qf1, qf2, qf3⟩ Aq Ar nuq cuq nur cur W4.heap.size Lq Lr w' (r3'.below hb) (r4'.below hb) hb.size (by omega) (by omega) (wide hsq) (wide hsr)
    have hCB := fun (w' : World) (hb : Below W4.heap.size W4 w') => rdifferences_any ⟨pi1, pi2, pi3, pf1, pf2, pf3⟩ ⟨qi1, qi2, qi3, qf1, qf2, qf3⟩ Aq Ar nuq cuq nur cur W4.heap.size Lq Lr w' (r3'.below hb) (r4'.below hb) hb.size (by omega) (by omega)
    have hCC := fun (w' : World) (hb : Below W4.heap.size W4 w') => rdifferences_any ⟨i1, d1, r1, f1, m1, a1⟩ ⟨i2, d2, r2, f2, m2, a2⟩ A1 A2 n1 c1 n2 c2 W4.heap.size L1 L2 w' (r1'.below hb) (r2'.below hb) hb.size (by omega) (by omega)
    have hCD := fun (w' : World) (hb : Below W4.heap.size W4 w') => differences_any ⟨i2, d2, r2, f2, m2, a2⟩ ⟨i1, d1, r1, f1, m1, a1⟩ A2 A1 n2 c2 n1 c1 W4.heap.size L2 L1 w' (r2'.below hb) (r1'.below hb) hb.size (by omega) (by omega) (wide hs2) (wide hs1)
    rw [Dif.dif_comm L2 L1] at hCD
    simp only [pv] at hCA hCB hCC hCD
    have hdr : StrR W4 Ad (Dif.dif L1 L2) := ⟨hrd⟩
    generalize Dif.dif Lq Lr = NQ at hCA hCB hNQ ⊢
    generalize Dif.dif L1 L2 = NP at hCC hCD hdr hNP hrd ⊢
    have HCA := hide hCA
    have HCB := hide hCB
    have HCC := hide hCC
    have HCD := hide hCD
    have HDR := hide hdr
    have HNNQ := hide hNQ
    have HNNP := hide hNP
    have HXX := hide (HBX.out.below hb4).blk
    have HYY := hide (HBY.out.below hb4).blk
    have HSA2 := hide (HSA.out.below hb4).blk
    have HSB2 := hide (HSB.out.below hb4).blk
    have HB4 := hide (HLOW.out.b.trans (hb4.mono hzl))
    clear hCA hCB hCC hCD hdr hrd hNQ hNP HRA HRB HRQ HRR HSA HSB HBX HBY HLOW hb4 r1' r2' r3' r4' hsq hsr hs1 hs2 wide
    refine wp_region_each (fun a0 D a w => ∃ (B2 : Option Addr) (k2 : Nat) (B5 : Option Addr) (k5 : Nat) (B11 : Option Addr) (k11 : Nat) (B17 : Option Addr) (k17 : Nat), a = upd a0 [(25, sel (D 0) (.agg #[.string pi1, .string pi2, .string pi3, .int .i64 pf1, .int .i64 pf2, .int .i64 pf3, .slice Aq nuq cuq]) undef), (26, sel (D 1) (.agg #[.string qi1, .string qi2, .string qi3, .int .i64 qf1, .int .i64 qf2, .int .i64 qf3, .slice Ar nur cur]) undef), (27, sel (D 2) (.slice B2 NQ.length k2) undef), (28, sel (D 3) (.agg #[.string pi1, .string pi2, .string pi3, .int .i64 pf1, .int .i64 pf2, .int .i64 pf3, .slice Aq nuq cuq]) undef), (29, sel (D 4) (.agg #[.string qi1, .string qi2, .string qi3, .int .i64 qf1, .int .i64 qf2, .int .i64 qf3, .slice Ar nur cur]) undef), (30, sel (D 5) (.slice B5 NQ.length k5) undef), (31, sel (D 6) (.bool true) undef), (32, sel (D 7) (.bool true) undef), (33, sel (D 8) (.slice Ad NP.length cdd) undef), (34, sel (D 9) (.agg #[.string i1, .string d1, .string r1, .int .i64 f1, .int .i64 m1, .int .i64 a1, .slice A1 n1 c1]) undef), (35, sel (D 10) (.agg #[.string i2, .string d2, .string r2, .int .i64 f2, .int .i64 m2, .int .i64 a2, .slice A2 n2 c2]) undef), (36, sel (D 11) (.slice B11 NP.length k11) undef), (37, sel (D 12) (.bool true) undef), (38, sel (D 13) (.bool true) undef), (39, sel (D 14) (.bool true) undef), (40, sel (D 15) (.agg #[.string i2, .string d2, .string r2, .int .i64 f2, .int .i64 m2, .int .i64 a2, .slice A2 n2 c2]) undef), (41, sel (D 16) (.agg #[.string i1, .string d1, .string r1, .int .i64 f1, .int .i64 m1, .int .i64 a1, .slice A1 n1 c1]) undef), (42, sel (D 17) (.slice B17 NP.length k17) undef), (43, sel (D 18) (.slice Ad NP.length cdd) undef), (44, sel (D 19) (.bool true) undef), (45, sel (D 20) (.bool true) undef), (46, sel (D 21) (.bool true) undef), (47, sel (D 22) (.bool true) undef), (48, sel (D 23) (.bool true) undef), (6, sel (D 24) (.bool true) (Value.bool false))] ∧ (Low W4 w) ∧ (D 2 = true → StrR w B2 NQ) ∧ (D 5 = true → StrR w B5 NQ) ∧ (D 11 = true → StrR w B11 NP) ∧ (D 17 = true → StrR w B17 NP)) (by kernel_rfl) (by kernel_rfl) ?_ ?_ ?_
    · refine ⟨none, 0, none, 0, none, 0, none, 0, ?_, Low.mk_ _, fun h => Bool.noConfusion h, fun h => Bool.noConfusion h, fun h => Bool.noConfusion h, fun h => Bool.noConfusion h⟩
      simp [upd, Act.put]
    · refine ⟨?_, ?_, ?_, ?_, ?_, ?_, ?_, ?_, ?_, ?_, ?_, ?_, ?_, ?_, ?_, ?_, ?_, ?_, ?_, ?_, ?_, ?_, ?_, ?_, ?_, trivial⟩
      · intro D a w' K hClo hk0 hd hJ
        change D 0 = false at hk0
        obtain ⟨B2, k2, B5, k5, B11, k11, B17, k17, rfl, hlow, ht2, ht5, ht11, ht17⟩ := hJ
        intro hK
        have n2 : D 2 = false := hClo.no 2 rfl (k := 0) (by decide) hk0
        have n24 : D 24 = false := hClo.no 24 rfl (k := 0) (by decide) hk0
        have n5 : D 5 = false := hClo.no 5 rfl (k := 2) (by decide) n2
        have n6 : D 6 = false := hClo.no 6 rfl (k := 2) (by decide) n2
        have n7 : D 7 = false := hClo.no 7 rfl (k := 6) (by decide) n6
        have n8 : D 8 = false := hClo.no 8 rfl (k := 7) (by decide) n7
        have n9 : D 9 = false := hClo.no 9 rfl (k := 7) (by decide) n7
        have n10 : D 10 = false := hClo.no 10 rfl (k := 7) (by decide) n7
        have n11 : D 11 = false := hClo.no 11 rfl (k := 7) (by decide) n7
        have n12 : D 12 = false := hClo.no 12 rfl (k := 7) (by decide) n7
        have n13 : D 13 = false := hClo.no 13 rfl (k := 7) (by decide) n7
        have n14 : D 14 = false := hClo.no 14 rfl (k := 12) (by decide) n12
        have n15 : D 15 = false := hClo.no 15 rfl (k := 14) (by decide) n14
        have n16 : D 16 = false := hClo.no 16 rfl (k := 14) (by decide) n14
        have n17 : D 17 = false := hClo.no 17 rfl (k := 14) (by decide) n14
        have n18 : D 18 = false := hClo.no 18 rfl (k := 14) (by decide) n14
        have n19 : D 19 = false := hClo.no 19 rfl (k := 14) (by decide) n14
        have n20 : D 20 = false := hClo.no 20 rfl (k := 14) (by decide) n14
        have n21 : D 21 = false := hClo.no 21 rfl (k := 19) (by decide) n19
        have n22 : D 22 = false := hClo.no 22 rfl (k := 21) (by decide) n21
        have n23 : D 23 = false := hClo.no 23 rfl (k := 21) (by decide) n21
        clear hClo hd
        have y0 := (hlow.b.cell (p := ⟨bx, 0, none⟩) HXX.out.lt).trans (HXX.out.cell 0)
        have y1 := (hlow.b.cell (p := ⟨bx, 1, none⟩) HXX.out.lt).trans (HXX.out.cell 1)
        have y2 := (hlow.b.cell (p := ⟨bx, 2, none⟩) HXX.out.lt).trans (HXX.out.cell 2)
        have y3 := (hlow.b.cell (p := ⟨bx, 3, none⟩) HXX.out.lt).trans (HXX.out.cell 3)
        have y4 := (hlow.b.cell (p := ⟨bx, 4, none⟩) HXX.out.lt).trans (HXX.out.cell 4)
        have y5 := (hlow.b.cell (p := ⟨bx, 5, none⟩) HXX.out.lt).trans (HXX.out.cell 5)
        have y6 := (hlow.b.cell (p := ⟨bx, 6, none⟩) HXX.out.lt).trans (HXX.out.cell 6)
        simp only [List.getElem?_toArray, List.getElem?_cons_zero, List.getElem?_cons_succ] at y0 y1 y2 y3 y4 y5 y6
        simp only [upd, Act.put, List.setIfInBounds_toArray, List.set_cons_zero, List.set_cons_succ]
        go_wp2_with fail
        refine hK _ _ ⟨B2, k2, B5, k5, B11, k11, B17, k17, ?_, ?_, ?_, ?_, ?_, ?_⟩
        · clear hK
          simp [upd, Act.put, also, *]
        · exact hlow
        · exact fun h => by simp [also, *] at h
        · exact fun h => by simp [also, *] at h
        · exact fun h => by simp [also, *] at h
        · exact fun h => by simp [also, *] at h
      · intro D a w' K hClo hk0 hd hJ
        change D 1 = false at hk0
        obtain ⟨B2, k2, B5, k5, B11, k11, B17, k17, rfl, hlow, ht2, ht5, ht11, ht17⟩ := hJ
        intro hK
        have n2 : D 2 = false := hClo.no 2 rfl (k := 1) (by decide) hk0
        have n24 : D 24 = false := hClo.no 24 rfl (k := 1) (by decide) hk0
        have n5 : D 5 = false := hClo.no 5 rfl (k := 2) (by decide) n2
        have n6 : D 6 = false := hClo.no 6 rfl (k := 2) (by decide) n2
        have n7 : D 7 = false := hClo.no 7 rfl (k := 6) (by decide) n6
        have n8 : D 8 = false := hClo.no 8 rfl (k := 7) (by decide) n7
        have n9 : D 9 = false := hClo.no 9 rfl (k := 7) (by decide) n7
        have n10 : D 10 = false := hClo.no 10 rfl (k := 7) (by decide) n7
        have n11 : D 11 = false := hClo.no 11 rfl (k := 7) (by decide) n7
        have n12 : D 12 = false := hClo.no 12 rfl (k := 7) (by decide) n7
        have n13 : D 13 = false := hClo.no 13 rfl (k := 7) (by decide) n7
        have n14 : D 14 = false := hClo.no 14 rfl (k := 12) (by decide) n12
        have n15 : D 15 = false := hClo.no 15 rfl (k := 14) (by decide) n14
        have n16 : D 16 = false := hClo.no 16 rfl (k := 14) (by decide) n14
        have n17 : D 17 = false := hClo.no 17 rfl (k := 14) (by decide) n14
        have n18 : D 18 = false := hClo.no 18 rfl (k := 14) (by decide) n14
        have n19 : D 19 = false := hClo.no 19 rfl (k := 14) (by decide) n14
        have n20 : D 20 = false := hClo.no 20 rfl (k := 14) (by decide) n14
        have n21 : D 21 = false := hClo.no 21 rfl (k := 19) (by decide) n19
        have n22 : D 22 = false := hClo.no 22 rfl (k := 21) (by decide) n21
        have n23 : D 23 = false := hClo.no 23 rfl (k := 21) (by decide) n21
        clear hClo hd
        have y0 := (hlow.b.cell (p := ⟨bx + 1, 0, none⟩) HYY.out.lt).trans (HYY.out.cell 0)
        have y1 := (hlow.b.cell (p := ⟨bx + 1, 1, none⟩) HYY.out.lt).trans (HYY.out.cell 1)
        have y2 := (hlow.b.cell (p := ⟨bx + 1, 2, none⟩) HYY.out.lt).trans (HYY.out.cell 2)
        have y3 := (hlow.b.cell (p := ⟨bx + 1, 3, none⟩) HYY.out.lt).trans (HYY.out.cell 3)
        have y4 := (hlow.b.cell (p := ⟨bx + 1, 4, none⟩) HYY.out.lt).trans (HYY.out.cell 4)
        have y5 := (hlow.b.cell (p := ⟨bx + 1, 5, none⟩) HYY.out.lt).trans (HYY.out.cell 5)
        have y6 := (hlow.b.cell (p := ⟨bx + 1, 6, none⟩) HYY.out.lt).trans (HYY.out.cell 6)
        simp only [List.getElem?_toArray, List.getElem?_cons_zero, List.getElem?_cons_succ] at y0 y1 y2 y3 y4 y5 y6
        simp only [upd, Act.put, List.setIfInBounds_toArray, List.set_cons_zero, List.set_cons_succ]
        go_wp2_with fail
        refine hK _ _ ⟨B2, k2, B5, k5, B11, k11, B17, k17, ?_, ?_, ?_, ?_, ?_, ?_⟩
        · clear hK
          simp [upd, Act.put, also, *]
        · exact hlow
        · exact fun h => by simp [also, *] at h
        · exact fun h => by simp [also, *] at h
        · exact fun h => by simp [also, *] at h
        · exact fun h => by simp [also, *] at h
      · intro D a w' K hClo hk0 hd hJ
        change D 2 = false at hk0
        obtain ⟨B2, k2, B5, k5, B11, k11, B17, k17, rfl, hlow, ht2, ht5, ht11, ht17⟩ := hJ
        intro hK
        have e0 : D 0 = true := hd 0 (by decide)
        have e1 : D 1 = true := hd 1 (by decide)
        have n5 : D 5 = false := hClo.no 5 rfl (k := 2) (by decide) hk0
        have n6 : D 6 = false := hClo.no 6 rfl (k := 2) (by decide) hk0
        have n24 : D 24 = false := hClo.no 24 rfl (k := 2) (by decide) hk0
        have n7 : D 7 = false := hClo.no 7 rfl (k := 6) (by decide) n6
        have n8 : D 8 = false := hClo.no 8 rfl (k := 7) (by decide) n7
        have n9 : D 9 = false := hClo.no 9 rfl (k := 7) (by decide) n7
        have n10 : D 10 = false := hClo.no 10 rfl (k := 7) (by decide) n7
        have n11 : D 11 = false := hClo.no 11 rfl (k := 7) (by decide) n7
        have n12 : D 12 = false := hClo.no 12 rfl (k := 7) (by decide) n7
        have n13 : D 13 = false := hClo.no 13 rfl (k := 7) (by decide) n7
        have n14 : D 14 = false := hClo.no 14 rfl (k := 12) (by decide) n12
        have n15 : D 15 = false := hClo.no 15 rfl (k := 14) (by decide) n14
        have n16 : D 16 = false := hClo.no 16 rfl (k := 14) (by decide) n14
        have n17 : D 17 = false := hClo.no 17 rfl (k := 14) (by decide) n14
        have n18 : D 18 = false := hClo.no 18 rfl (k := 14) (by decide) n14
        have n19 : D 19 = false := hClo.no 19 rfl (k := 14) (by decide) n14
        have n20 : D 20 = false := hClo.no 20 rfl (k := 14) (by decide) n14
        have n21 : D 21 = false := hClo.no 21 rfl (k := 19) (by decide) n19
        have n22 : D 22 = false := hClo.no 22 rfl (k := 21) (by decide) n21
        have n23 : D 23 = false := hClo.no 23 rfl (k := 21) (by decide) n21
        clear hClo hd
        have hcall := HCA.out w' hlow.b
        have HC := hide hcall
        clear hcall
        simp only [upd, Act.put, List.setIfInBounds_toArray, List.set_cons_zero, List.set_cons_succ, e0, e1]
        go_wp2_with fail
        with_reducible refine HC.out.mono ?_
        rintro e w2 ⟨Aw, cw, rfl, hrw, hB2⟩
        go_wp2_with fail
        refine hK _ _ ⟨Aw, cw, B5, k5, B11, k11, B17, k17, ?_, ?_, ?_, ?_, ?_, ?_⟩
        · clear hK
          simp [upd, Act.put, also, *]
        · exact hlow.below hB2
        · exact fun _ => ⟨hrw⟩
        · exact fun h => by simp [also, *] at h
        · exact fun h => by simp [also, *] at h
        · exact fun h => by simp [also, *] at h
      · intro D a w' K hClo hk0 hd hJ
        change D 3 = false at hk0
        obtain ⟨B2, k2, B5, k5, B11, k11, B17, k17, rfl, hlow, ht2, ht5, ht11, ht17⟩ := hJ
        intro hK
        have n5 : D 5 = false := hClo.no 5 rfl (k := 3) (by decide) hk0
        have n24 : D 24 = false := hClo.no 24 rfl (k := 3) (by decide) hk0
        have n6 : D 6 = false := hClo.no 6 rfl (k := 5) (by decide) n5
        have n7 : D 7 = false := hClo.no 7 rfl (k := 6) (by decide) n6
        have n8 : D 8 = false := hClo.no 8 rfl (k := 7) (by decide) n7
        have n9 : D 9 = false := hClo.no 9 rfl (k := 7) (by decide) n7
        have n10 : D 10 = false := hClo.no 10 rfl (k := 7) (by decide) n7
        have n11 : D 11 = false := hClo.no 11 rfl (k := 7) (by decide) n7
        have n12 : D 12 = false := hClo.no 12 rfl (k := 7) (by decide) n7
        have n13 : D 13 = false := hClo.no 13 rfl (k := 7) (by decide) n7
        have n14 : D 14 = false := hClo.no 14 rfl (k := 12) (by decide) n12
        have n15 : D 15 = false := hClo.no 15 rfl (k := 14) (by decide) n14
        have n16 : D 16 = false := hClo.no 16 rfl (k := 14) (by decide) n14
        have n17 : D 17 = false := hClo.no 17 rfl (k := 14) (by decide) n14
        have n18 : D 18 = false := hClo.no 18 rfl (k := 14) (by decide) n14
        have n19 : D 19 = false := hClo.no 19 rfl (k := 14) (by decide) n14
        have n20 : D 20 = false := hClo.no 20 rfl (k := 14) (by decide) n14
        have n21 : D 21 = false := hClo.no 21 rfl (k := 19) (by decide) n19
        have n22 : D 22 = false := hClo.no 22 rfl (k := 21) (by decide) n21
        have n23 : D 23 = false := hClo.no 23 rfl (k := 21) (by decide) n21
        clear hClo hd
        have y0 := (hlow.b.cell (p := ⟨bx, 0, none⟩) HXX.out.lt).trans (HXX.out.cell 0)
        have y1 := (hlow.b.cell (p := ⟨bx, 1, none⟩) HXX.out.lt).trans (HXX.out.cell 1)
        have y2 := (hlow.b.cell (p := ⟨bx, 2, none⟩) HXX.out.lt).trans (HXX.out.cell 2)
        have y3 := (hlow.b.cell (p := ⟨bx, 3, none⟩) HXX.out.lt).trans (HXX.out.cell 3)
        have y4 := (hlow.b.cell (p := ⟨bx, 4, none⟩) HXX.out.lt).trans (HXX.out.cell 4)
        have y5 := (hlow.b.cell (p := ⟨bx, 5, none⟩) HXX.out.lt).trans (HXX.out.cell 5)
        have y6 := (hlow.b.cell (p := ⟨bx, 6, none⟩) HXX.out.lt).trans (HXX.out.cell 6)
        simp only [List.getElem?_toArray, List.getElem?_cons_zero, List.getElem?_cons_succ] at y0 y1 y2 y3 y4 y5 y6
        simp only [upd, Act.put, List.setIfInBounds_toArray, List.set_cons_zero, List.set_cons_succ]
        go_wp2_with fail
        refine hK _ _ ⟨B2, k2, B5, k5, B11, k11, B17, k17, ?_, ?_, ?_, ?_, ?_, ?_⟩
        · clear hK
          simp [upd, Act.put, also, *]
        · exact hlow
        · exact fun h => (ht2 (by simpa [also] using h))
        · exact fun h => by simp [also, *] at h
        · exact fun h => by simp [also, *] at h
        · exact fun h => by simp [also, *] at h
      · intro D a w' K hClo hk0 hd hJ
        change D 4 = false at hk0
        obtain ⟨B2, k2, B5, k5, B11, k11, B17, k17, rfl, hlow, ht2, ht5, ht11, ht17⟩ := hJ
        intro hK
        have n5 : D 5 = false := hClo.no 5 rfl (k := 4) (by decide) hk0
        have n24 : D 24 = false := hClo.no 24 rfl (k := 4) (by decide) hk0
        have n6 : D 6 = false := hClo.no 6 rfl (k := 5) (by decide) n5
        have n7 : D 7 = false := hClo.no 7 rfl (k := 6) (by decide) n6
        have n8 : D 8 = false := hClo.no 8 rfl (k := 7) (by decide) n7
        have n9 : D 9 = false := hClo.no 9 rfl (k := 7) (by decide) n7
        have n10 : D 10 = false := hClo.no 10 rfl (k := 7) (by decide) n7
        have n11 : D 11 = false := hClo.no 11 rfl (k := 7) (by decide) n7
        have n12 : D 12 = false := hClo.no 12 rfl (k := 7) (by decide) n7
        have n13 : D 13 = false := hClo.no 13 rfl (k := 7) (by decide) n7
        have n14 : D 14 = false := hClo.no 14 rfl (k := 12) (by decide) n12
        have n15 : D 15 = false := hClo.no 15 rfl (k := 14) (by decide) n14
        have n16 : D 16 = false := hClo.no 16 rfl (k := 14) (by decide) n14
        have n17 : D 17 = false := hClo.no 17 rfl (k := 14) (by decide) n14
        have n18 : D 18 = false := hClo.no 18 rfl (k := 14) (by decide) n14
        have n19 : D 19 = false := hClo.no 19 rfl (k := 14) (by decide) n14
        have n20 : D 20 = false := hClo.no 20 rfl (k := 14) (by decide) n14
        have n21 : D 21 = false := hClo.no 21 rfl (k := 19) (by decide) n19
        have n22 : D 22 = false := hClo.no 22 rfl (k := 21) (by decide) n21
        have n23 : D 23 = false := hClo.no 23 rfl (k := 21) (by decide) n21
        clear hClo hd
        have y0 := (hlow.b.cell (p := ⟨bx + 1, 0, none⟩) HYY.out.lt).trans (HYY.out.cell 0)
        have y1 := (hlow.b.cell (p := ⟨bx + 1, 1, none⟩) HYY.out.lt).trans (HYY.out.cell 1)
        have y2 := (hlow.b.cell (p := ⟨bx + 1, 2, none⟩) HYY.out.lt).trans (HYY.out.cell 2)
        have y3 := (hlow.b.cell (p := ⟨bx + 1, 3, none⟩) HYY.out.lt).trans (HYY.out.cell 3)
        have y4 := (hlow.b.cell (p := ⟨bx + 1, 4, none⟩) HYY.out.lt).trans (HYY.out.cell 4)
        have y5 := (hlow.b.cell (p := ⟨bx + 1, 5, none⟩) HYY.out.lt).trans (HYY.out.cell 5)
        have y6 := (hlow.b.cell (p := ⟨bx + 1, 6, none⟩) HYY.out.lt).trans (HYY.out.cell 6)
        simp only [List.getElem?_toArray, List.getElem?_cons_zero, List.getElem?_cons_succ] at y0 y1 y2 y3 y4 y5 y6
        simp only [upd, Act.put, List.setIfInBounds_toArray, List.set_cons_zero, List.set_cons_succ]
        go_wp2_with fail
        refine hK _ _ ⟨B2, k2, B5, k5, B11, k11, B17, k17, ?_, ?_, ?_, ?_, ?_, ?_⟩
        · clear hK
          simp [upd, Act.put, also, *]
        · exact hlow
        · exact fun h => (ht2 (by simpa [also] using h))
        · exact fun h => by simp [also, *] at h
        · exact fun h => by simp [also, *] at h
        · exact fun h => by simp [also, *] at h
      · intro D a w' K hClo hk0 hd hJ
        change D 5 = false at hk0
        obtain ⟨B2, k2, B5, k5, B11, k11, B17, k17, rfl, hlow, ht2, ht5, ht11, ht17⟩ := hJ
        intro hK
        have e2 : D 2 = true := hd 2 (by decide)
        have e3 : D 3 = true := hd 3 (by decide)
        have e4 : D 4 = true := hd 4 (by decide)
        have n6 : D 6 = false := hClo.no 6 rfl (k := 5) (by decide) hk0
        have n24 : D 24 = false := hClo.no 24 rfl (k := 5) (by decide) hk0
        have n7 : D 7 = false := hClo.no 7 rfl (k := 6) (by decide) n6
        have n8 : D 8 = false := hClo.no 8 rfl (k := 7) (by decide) n7
        have n9 : D 9 = false := hClo.no 9 rfl (k := 7) (by decide) n7
        have n10 : D 10 = false := hClo.no 10 rfl (k := 7) (by decide) n7
        have n11 : D 11 = false := hClo.no 11 rfl (k := 7) (by decide) n7
        have n12 : D 12 = false := hClo.no 12 rfl (k := 7) (by decide) n7
        have n13 : D 13 = false := hClo.no 13 rfl (k := 7) (by decide) n7
        have n14 : D 14 = false := hClo.no 14 rfl (k := 12) (by decide) n12
        have n15 : D 15 = false := hClo.no 15 rfl (k := 14) (by decide) n14
        have n16 : D 16 = false := hClo.no 16 rfl (k := 14) (by decide) n14
        have n17 : D 17 = false := hClo.no 17 rfl (k := 14) (by decide) n14
        have n18 : D 18 = false := hClo.no 18 rfl (k := 14) (by decide) n14
        have n19 : D 19 = false := hClo.no 19 rfl (k := 14) (by decide) n14
        have n20 : D 20 = false := hClo.no 20 rfl (k := 14) (by decide) n14
        have n21 : D 21 = false := hClo.no 21 rfl (k := 19) (by decide) n19
        have n22 : D 22 = false := hClo.no 22 rfl (k := 21) (by decide) n21
        have n23 : D 23 = false := hClo.no 23 rfl (k := 21) (by decide) n21
        clear hClo hd
        have hcall := HCB.out w' hlow.b
        have HC := hide hcall
        clear hcall
        simp only [upd, Act.put, List.setIfInBounds_toArray, List.set_cons_zero, List.set_cons_succ, e2, e3, e4]
        go_wp2_with fail
        with_reducible refine HC.out.mono ?_
        rintro e w2 ⟨Aw, cw, rfl, hrw, hB2⟩
        go_wp2_with fail
        refine hK _ _ ⟨B2, k2, Aw, cw, B11, k11, B17, k17, ?_, ?_, ?_, ?_, ?_, ?_⟩
        · clear hK
          simp [upd, Act.put, also, *]
        · exact hlow.below hB2
        · exact fun h => (ht2 (by simpa [also] using h)).below hB2
        · exact fun _ => ⟨hrw⟩
        · exact fun h => by simp [also, *] at h
        · exact fun h => by simp [also, *] at h
      · intro D a w' K hClo hk0 hd hJ
        change D 6 = false at hk0
        obtain ⟨B2, k2, B5, k5, B11, k11, B17, k17, rfl, hlow, ht2, ht5, ht11, ht17⟩ := hJ
        intro hK
        have e2 : D 2 = true := hd 2 (by decide)
        have e5 : D 5 = true := hd 5 (by decide)
        have n7 : D 7 = false := hClo.no 7 rfl (k := 6) (by decide) hk0
        have n24 : D 24 = false := hClo.no 24 rfl (k := 6) (by decide) hk0
        have n8 : D 8 = false := hClo.no 8 rfl (k := 7) (by decide) n7
        have n9 : D 9 = false := hClo.no 9 rfl (k := 7) (by decide) n7
        have n10 : D 10 = false := hClo.no 10 rfl (k := 7) (by decide) n7
        have n11 : D 11 = false := hClo.no 11 rfl (k := 7) (by decide) n7
        have n12 : D 12 = false := hClo.no 12 rfl (k := 7) (by decide) n7
        have n13 : D 13 = false := hClo.no 13 rfl (k := 7) (by decide) n7
        have n14 : D 14 = false := hClo.no 14 rfl (k := 12) (by decide) n12
        have n15 : D 15 = false := hClo.no 15 rfl (k := 14) (by decide) n14
        have n16 : D 16 = false := hClo.no 16 rfl (k := 14) (by decide) n14
        have n17 : D 17 = false := hClo.no 17 rfl (k := 14) (by decide) n14
        have n18 : D 18 = false := hClo.no 18 rfl (k := 14) (by decide) n14
        have n19 : D 19 = false := hClo.no 19 rfl (k := 14) (by decide) n14
        have n20 : D 20 = false := hClo.no 20 rfl (k := 14) (by decide) n14
        have n21 : D 21 = false := hClo.no 21 rfl (k := 19) (by decide) n19
        have n22 : D 22 = false := hClo.no 22 rfl (k := 21) (by decide) n21
        have n23 : D 23 = false := hClo.no 23 rfl (k := 21) (by decide) n21
        clear hClo hd
        have hcall := samestr_any B2 B5 k2 k5 w'.heap.size NQ w' (ht2 e2).r (ht5 e5).r HNNQ.out
        have HC := hide hcall
        clear hcall
        simp only [upd, Act.put, List.setIfInBounds_toArray, List.set_cons_zero, List.set_cons_succ, e2, e5]
        go_wp2_with fail
        with_reducible refine HC.out.mono ?_
        rintro e w2 ⟨rfl, hB2⟩
        go_wp2_with fail
        refine hK _ _ ⟨B2, k2, B5, k5, B11, k11, B17, k17, ?_, ?_, ?_, ?_, ?_, ?_⟩
        · clear hK
          simp [upd, Act.put, also, *]
        · exact hlow.below hB2
        · exact fun h => (ht2 (by simpa [also] using h)).below hB2
        · exact fun h => (ht5 (by simpa [also] using h)).below hB2
        · exact fun h => by simp [also, *] at h
        · exact fun h => by simp [also, *] at h
      · intro D a w' K hClo hk0 hd hJ
        change D 7 = false at hk0
        obtain ⟨B2, k2, B5, k5, B11, k11, B17, k17, rfl, hlow, ht2, ht5, ht11, ht17⟩ := hJ
        intro hK
        have e6 : D 6 = true := hd 6 (by decide)
        have n8 : D 8 = false := hClo.no 8 rfl (k := 7) (by decide) hk0
        have n9 : D 9 = false := hClo.no 9 rfl (k := 7) (by decide) hk0
        have n10 : D 10 = false := hClo.no 10 rfl (k := 7) (by decide) hk0
        have n11 : D 11 = false := hClo.no 11 rfl (k := 7) (by decide) hk0
        have n12 : D 12 = false := hClo.no 12 rfl (k := 7) (by decide) hk0
        have n13 : D 13 = false := hClo.no 13 rfl (k := 7) (by decide) hk0
        have n24 : D 24 = false := hClo.no 24 rfl (k := 7) (by decide) hk0
        have n14 : D 14 = false := hClo.no 14 rfl (k := 12) (by decide) n12
        have n15 : D 15 = false := hClo.no 15 rfl (k := 14) (by decide) n14
        have n16 : D 16 = false := hClo.no 16 rfl (k := 14) (by decide) n14
        have n17 : D 17 = false := hClo.no 17 rfl (k := 14) (by decide) n14
        have n18 : D 18 = false := hClo.no 18 rfl (k := 14) (by decide) n14
        have n19 : D 19 = false := hClo.no 19 rfl (k := 14) (by decide) n14
        have n20 : D 20 = false := hClo.no 20 rfl (k := 14) (by decide) n14
        have n21 : D 21 = false := hClo.no 21 rfl (k := 19) (by decide) n19
        have n22 : D 22 = false := hClo.no 22 rfl (k := 21) (by decide) n21
        have n23 : D 23 = false := hClo.no 23 rfl (k := 21) (by decide) n21
        clear hClo hd
        simp only [upd, Act.put, List.setIfInBounds_toArray, List.set_cons_zero, List.set_cons_succ, e6]
        go_wp2_with fail
        refine hK _ _ ⟨B2, k2, B5, k5, B11, k11, B17, k17, ?_, ?_, ?_, ?_, ?_, ?_⟩
        · clear hK
          simp [upd, Act.put, also, *]
        · exact hlow
        · exact fun h => (ht2 (by simpa [also] using h))
        · exact fun h => (ht5 (by simpa [also] using h))
        · exact fun h => by simp [also, *] at h
        · exact fun h => by simp [also, *] at h
      · intro D a w' K hClo hk0 hd hJ
        change D 8 = false at hk0
        obtain ⟨B2, k2, B5, k5, B11, k11, B17, k17, rfl, hlow, ht2, ht5, ht11, ht17⟩ := hJ
        intro hK
        have e7 : D 7 = true := hd 7 (by decide)
        have n12 : D 12 = false := hClo.no 12 rfl (k := 8) (by decide) hk0
        have n24 : D 24 = false := hClo.no 24 rfl (k := 8) (by decide) hk0
        have n13 : D 13 = false := hClo.no 13 rfl (k := 12) (by decide) n12
        have n14 : D 14 = false := hClo.no 14 rfl (k := 12) (by decide) n12
        have n15 : D 15 = false := hClo.no 15 rfl (k := 14) (by decide) n14
        have n16 : D 16 = false := hClo.no 16 rfl (k := 14) (by decide) n14
        have n17 : D 17 = false := hClo.no 17 rfl (k := 14) (by decide) n14
        have n18 : D 18 = false := hClo.no 18 rfl (k := 14) (by decide) n14
        have n19 : D 19 = false := hClo.no 19 rfl (k := 14) (by decide) n14
        have n20 : D 20 = false := hClo.no 20 rfl (k := 14) (by decide) n14
        have n21 : D 21 = false := hClo.no 21 rfl (k := 19) (by decide) n19
        have n22 : D 22 = false := hClo.no 22 rfl (k := 21) (by decide) n21
        have n23 : D 23 = false := hClo.no 23 rfl (k := 21) (by decide) n21
        clear hClo hd
        simp only [upd, Act.put, List.setIfInBounds_toArray, List.set_cons_zero, List.set_cons_succ, e7]
        go_wp2_with fail
        refine hK _ _ ⟨B2, k2, B5, k5, B11, k11, B17, k17, ?_, ?_, ?_, ?_, ?_, ?_⟩
        · clear hK
          simp [upd, Act.put, also, *]
        · exact hlow
        · exact fun h => (ht2 (by simpa [also] using h))
        · exact fun h => (ht5 (by simpa [also] using h))
        · exact fun h => (ht11 (by simpa [also] using h))
        · exact fun h => by simp [also, *] at h
      · intro D a w' K hClo hk0 hd hJ
        change D 9 = false at hk0
        obtain ⟨B2, k2, B5, k5, B11, k11, B17, k17, rfl, hlow, ht2, ht5, ht11, ht17⟩ := hJ
        intro hK
        have e7 : D 7 = true := hd 7 (by decide)
        have n11 : D 11 = false := hClo.no 11 rfl (k := 9) (by decide) hk0
        have n24 : D 24 = false := hClo.no 24 rfl (k := 9) (by decide) hk0
        have n12 : D 12 = false := hClo.no 12 rfl (k := 11) (by decide) n11
        have n13 : D 13 = false := hClo.no 13 rfl (k := 12) (by decide) n12
        have n14 : D 14 = false := hClo.no 14 rfl (k := 12) (by decide) n12
        have n15 : D 15 = false := hClo.no 15 rfl (k := 14) (by decide) n14
        have n16 : D 16 = false := hClo.no 16 rfl (k := 14) (by decide) n14
        have n17 : D 17 = false := hClo.no 17 rfl (k := 14) (by decide) n14
        have n18 : D 18 = false := hClo.no 18 rfl (k := 14) (by decide) n14
        have n19 : D 19 = false := hClo.no 19 rfl (k := 14) (by decide) n14
        have n20 : D 20 = false := hClo.no 20 rfl (k := 14) (by decide) n14
        have n21 : D 21 = false := hClo.no 21 rfl (k := 19) (by decide) n19
        have n22 : D 22 = false := hClo.no 22 rfl (k := 21) (by decide) n21
        have n23 : D 23 = false := hClo.no 23 rfl (k := 21) (by decide) n21
        clear hClo hd
        have y0 := (hlow.b.cell (p := ⟨b1, 0, none⟩) HSA2.out.lt).trans (HSA2.out.cell 0)
        have y1 := (hlow.b.cell (p := ⟨b1, 1, none⟩) HSA2.out.lt).trans (HSA2.out.cell 1)
        have y2 := (hlow.b.cell (p := ⟨b1, 2, none⟩) HSA2.out.lt).trans (HSA2.out.cell 2)
        have y3 := (hlow.b.cell (p := ⟨b1, 3, none⟩) HSA2.out.lt).trans (HSA2.out.cell 3)
        have y4 := (hlow.b.cell (p := ⟨b1, 4, none⟩) HSA2.out.lt).trans (HSA2.out.cell 4)
        have y5 := (hlow.b.cell (p := ⟨b1, 5, none⟩) HSA2.out.lt).trans (HSA2.out.cell 5)
        have y6 := (hlow.b.cell (p := ⟨b1, 6, none⟩) HSA2.out.lt).trans (HSA2.out.cell 6)
        simp only [List.getElem?_toArray, List.getElem?_cons_zero, List.getElem?_cons_succ] at y0 y1 y2 y3 y4 y5 y6
        simp only [upd, Act.put, List.setIfInBounds_toArray, List.set_cons_zero, List.set_cons_succ, e7]
        go_wp2_with fail
        refine hK _ _ ⟨B2, k2, B5, k5, B11, k11, B17, k17, ?_, ?_, ?_, ?_, ?_, ?_⟩
        · clear hK
          simp [upd, Act.put, also, *]
        · exact hlow
        · exact fun h => (ht2 (by simpa [also] using h))
        · exact fun h => (ht5 (by simpa [also] using h))
        · exact fun h => by simp [also, *] at h
        · exact fun h => by simp [also, *] at h
      · intro D a w' K hClo hk0 hd hJ
        change D 10 = false at hk0
        obtain ⟨B2, k2, B5, k5, B11, k11, B17, k17, rfl, hlow, ht2, ht5, ht11, ht17⟩ := hJ
        intro hK
        have e7 : D 7 = true := hd 7 (by decide)
        have n11 : D 11 = false := hClo.no 11 rfl (k := 10) (by decide) hk0
        have n24 : D 24 = false := hClo.no 24 rfl (k := 10) (by decide) hk0
        have n12 : D 12 = false := hClo.no 12 rfl (k := 11) (by decide) n11
        have n13 : D 13 = false := hClo.no 13 rfl (k := 12) (by decide) n12
        have n14 : D 14 = false := hClo.no 14 rfl (k := 12) (by decide) n12
        have n15 : D 15 = false := hClo.no 15 rfl (k := 14) (by decide) n14
        have n16 : D 16 = false := hClo.no 16 rfl (k := 14) (by decide) n14
        have n17 : D 17 = false := hClo.no 17 rfl (k := 14) (by decide) n14
        have n18 : D 18 = false := hClo.no 18 rfl (k := 14) (by decide) n14
        have n19 : D 19 = false := hClo.no 19 rfl (k := 14) (by decide) n14
        have n20 : D 20 = false := hClo.no 20 rfl (k := 14) (by decide) n14
        have n21 : D 21 = false := hClo.no 21 rfl (k := 19) (by decide) n19
        have n22 : D 22 = false := hClo.no 22 rfl (k := 21) (by decide) n21
        have n23 : D 23 = false := hClo.no 23 rfl (k := 21) (by decide) n21
        clear hClo hd
        have y0 := (hlow.b.cell (p := ⟨b1 + 1, 0, none⟩) HSB2.out.lt).trans (HSB2.out.cell 0)
        have y1 := (hlow.b.cell (p := ⟨b1 + 1, 1, none⟩) HSB2.out.lt).trans (HSB2.out.cell 1)
        have y2 := (hlow.b.cell (p := ⟨b1 + 1, 2, none⟩) HSB2.out.lt).trans (HSB2.out.cell 2)
        have y3 := (hlow.b.cell (p := ⟨b1 + 1, 3, none⟩) HSB2.out.lt).trans (HSB2.out.cell 3)
        have y4 := (hlow.b.cell (p := ⟨b1 + 1, 4, none⟩) HSB2.out.lt).trans (HSB2.out.cell 4)
        have y5 := (hlow.b.cell (p := ⟨b1 + 1, 5, none⟩) HSB2.out.lt).trans (HSB2.out.cell 5)
        have y6 := (hlow.b.cell (p := ⟨b1 + 1, 6, none⟩) HSB2.out.lt).trans (HSB2.out.cell 6)
        simp only [List.getElem?_toArray, List.getElem?_cons_zero, List.getElem?_cons_succ] at y0 y1 y2 y3 y4 y5 y6
        simp only [upd, Act.put, List.setIfInBounds_toArray, List.set_cons_zero, List.set_cons_succ, e7]
        go_wp2_with fail
        refine hK _ _ ⟨B2, k2, B5, k5, B11, k11, B17, k17, ?_, ?_, ?_, ?_, ?_, ?_⟩
        · clear hK
          simp [upd, Act.put, also, *]
        · exact hlow
        · exact fun h => (ht2 (by simpa [also] using h))
        · exact fun h => (ht5 (by simpa [also] using h))
        · exact fun h => by simp [also, *] at h
        · exact fun h => by simp [also, *] at h
      · intro D a w' K hClo hk0 hd hJ
        change D 11 = false at hk0
        obtain ⟨B2, k2, B5, k5, B11, k11, B17, k17, rfl, hlow, ht2, ht5, ht11, ht17⟩ := hJ
        intro hK
        have e7 : D 7 = true := hd 7 (by decide)
        have e9 : D 9 = true := hd 9 (by decide)
        have e10 : D 10 = true := hd 10 (by decide)
        have n12 : D 12 = false := hClo.no 12 rfl (k := 11) (by decide) hk0
        have n24 : D 24 = false := hClo.no 24 rfl (k := 11) (by decide) hk0
        have n13 : D 13 = false := hClo.no 13 rfl (k := 12) (by decide) n12
        have n14 : D 14 = false := hClo.no 14 rfl (k := 12) (by decide) n12
        have n15 : D 15 = false := hClo.no 15 rfl (k := 14) (by decide) n14
        have n16 : D 16 = false := hClo.no 16 rfl (k := 14) (by decide) n14
        have n17 : D 17 = false := hClo.no 17 rfl (k := 14) (by decide) n14
        have n18 : D 18 = false := hClo.no 18 rfl (k := 14) (by decide) n14
        have n19 : D 19 = false := hClo.no 19 rfl (k := 14) (by decide) n14
        have n20 : D 20 = false := hClo.no 20 rfl (k := 14) (by decide) n14
        have n21 : D 21 = false := hClo.no 21 rfl (k := 19) (by decide) n19
        have n22 : D 22 = false := hClo.no 22 rfl (k := 21) (by decide) n21
        have n23 : D 23 = false := hClo.no 23 rfl (k := 21) (by decide) n21
        clear hClo hd
        have hcall := HCC.out w' hlow.b
        have HC := hide hcall
        clear hcall
        simp only [upd, Act.put, List.setIfInBounds_toArray, List.set_cons_zero, List.set_cons_succ, e7, e9, e10]
        go_wp2_with fail
        with_reducible refine HC.out.mono ?_
        rintro e w2 ⟨Aw, cw, rfl, hrw, hB2⟩
        go_wp2_with fail
        refine hK _ _ ⟨B2, k2, B5, k5, Aw, cw, B17, k17, ?_, ?_, ?_, ?_, ?_, ?_⟩
        · clear hK
          simp [upd, Act.put, also, *]
        · exact hlow.below hB2
        · exact fun h => (ht2 (by simpa [also] using h)).below hB2
        · exact fun h => (ht5 (by simpa [also] using h)).below hB2
        · exact fun _ => ⟨hrw⟩
        · exact fun h => by simp [also, *] at h
      · intro D a w' K hClo hk0 hd hJ
        change D 12 = false at hk0
        obtain ⟨B2, k2, B5, k5, B11, k11, B17, k17, rfl, hlow, ht2, ht5, ht11, ht17⟩ := hJ
        intro hK
        have e7 : D 7 = true := hd 7 (by decide)
        have e8 : D 8 = true := hd 8 (by decide)
        have e11 : D 11 = true := hd 11 (by decide)
        have n13 : D 13 = false := hClo.no 13 rfl (k := 12) (by decide) hk0
        have n14 : D 14 = false := hClo.no 14 rfl (k := 12) (by decide) hk0
        have n24 : D 24 = false := hClo.no 24 rfl (k := 12) (by decide) hk0
        have n15 : D 15 = false := hClo.no 15 rfl (k := 14) (by decide) n14
        have n16 : D 16 = false := hClo.no 16 rfl (k := 14) (by decide) n14
        have n17 : D 17 = false := hClo.no 17 rfl (k := 14) (by decide) n14
        have n18 : D 18 = false := hClo.no 18 rfl (k := 14) (by decide) n14
        have n19 : D 19 = false := hClo.no 19 rfl (k := 14) (by decide) n14
        have n20 : D 20 = false := hClo.no 20 rfl (k := 14) (by decide) n14
        have n21 : D 21 = false := hClo.no 21 rfl (k := 19) (by decide) n19
        have n22 : D 22 = false := hClo.no 22 rfl (k := 21) (by decide) n21
        have n23 : D 23 = false := hClo.no 23 rfl (k := 21) (by decide) n21
        clear hClo hd
        have hcall := samestr_any Ad B11 cdd k11 w'.heap.size NP w' ((HDR.out.below hlow.b).r) (ht11 e11).r HNNP.out
        have HC := hide hcall
        clear hcall
        simp only [upd, Act.put, List.setIfInBounds_toArray, List.set_cons_zero, List.set_cons_succ, e7, e8, e11]
        go_wp2_with fail
        with_reducible refine HC.out.mono ?_
        rintro e w2 ⟨rfl, hB2⟩
        go_wp2_with fail
        refine hK _ _ ⟨B2, k2, B5, k5, B11, k11, B17, k17, ?_, ?_, ?_, ?_, ?_, ?_⟩
        · clear hK
          simp [upd, Act.put, also, *]
        · exact hlow.below hB2
        · exact fun h => (ht2 (by simpa [also] using h)).below hB2
        · exact fun h => (ht5 (by simpa [also] using h)).below hB2
        · exact fun h => (ht11 (by simpa [also] using h)).below hB2
        · exact fun h => by simp [also, *] at h
      · intro D a w' K hClo hk0 hd hJ
        change D 13 = false at hk0
        obtain ⟨B2, k2, B5, k5, B11, k11, B17, k17, rfl, hlow, ht2, ht5, ht11, ht17⟩ := hJ
        intro hK
        have e7 : D 7 = true := hd 7 (by decide)
        have e12 : D 12 = true := hd 12 (by decide)
        have n14 : D 14 = false := hClo.no 14 rfl (k := 13) (by decide) hk0
        have n24 : D 24 = false := hClo.no 24 rfl (k := 13) (by decide) hk0
        have n15 : D 15 = false := hClo.no 15 rfl (k := 14) (by decide) n14
        have n16 : D 16 = false := hClo.no 16 rfl (k := 14) (by decide) n14
        have n17 : D 17 = false := hClo.no 17 rfl (k := 14) (by decide) n14
        have n18 : D 18 = false := hClo.no 18 rfl (k := 14) (by decide) n14
        have n19 : D 19 = false := hClo.no 19 rfl (k := 14) (by decide) n14
        have n20 : D 20 = false := hClo.no 20 rfl (k := 14) (by decide) n14
        have n21 : D 21 = false := hClo.no 21 rfl (k := 19) (by decide) n19
        have n22 : D 22 = false := hClo.no 22 rfl (k := 21) (by decide) n21
        have n23 : D 23 = false := hClo.no 23 rfl (k := 21) (by decide) n21
        clear hClo hd
        simp only [upd, Act.put, List.setIfInBounds_toArray, List.set_cons_zero, List.set_cons_succ, e7, e12]
        go_wp2_with fail
        refine hK _ _ ⟨B2, k2, B5, k5, B11, k11, B17, k17, ?_, ?_, ?_, ?_, ?_, ?_⟩
        · clear hK
          simp [upd, Act.put, also, *]
        · exact hlow
        · exact fun h => (ht2 (by simpa [also] using h))
        · exact fun h => (ht5 (by simpa [also] using h))
        · exact fun h => (ht11 (by simpa [also] using h))
        · exact fun h => by simp [also, *] at h
      · intro D a w' K hClo hk0 hd hJ
        change D 14 = false at hk0
        obtain ⟨B2, k2, B5, k5, B11, k11, B17, k17, rfl, hlow, ht2, ht5, ht11, ht17⟩ := hJ
        intro hK
        have e12 : D 12 = true := hd 12 (by decide)
        have e13 : D 13 = true := hd 13 (by decide)
        have n15 : D 15 = false := hClo.no 15 rfl (k := 14) (by decide) hk0
        have n16 : D 16 = false := hClo.no 16 rfl (k := 14) (by decide) hk0
        have n17 : D 17 = false := hClo.no 17 rfl (k := 14) (by decide) hk0
        have n18 : D 18 = false := hClo.no 18 rfl (k := 14) (by decide) hk0
        have n19 : D 19 = false := hClo.no 19 rfl (k := 14) (by decide) hk0
        have n20 : D 20 = false := hClo.no 20 rfl (k := 14) (by decide) hk0
        have n24 : D 24 = false := hClo.no 24 rfl (k := 14) (by decide) hk0
        have n21 : D 21 = false := hClo.no 21 rfl (k := 19) (by decide) n19
        have n22 : D 22 = false := hClo.no 22 rfl (k := 21) (by decide) n21
        have n23 : D 23 = false := hClo.no 23 rfl (k := 21) (by decide) n21
        clear hClo hd
        simp only [upd, Act.put, List.setIfInBounds_toArray, List.set_cons_zero, List.set_cons_succ, e12, e13]
        go_wp2_with fail
        refine hK _ _ ⟨B2, k2, B5, k5, B11, k11, B17, k17, ?_, ?_, ?_, ?_, ?_, ?_⟩
        · clear hK
          simp [upd, Act.put, also, *]
        · exact hlow
        · exact fun h => (ht2 (by simpa [also] using h))
        · exact fun h => (ht5 (by simpa [also] using h))
        · exact fun h => (ht11 (by simpa [also] using h))
        · exact fun h => by simp [also, *] at h
      · intro D a w' K hClo hk0 hd hJ
        change D 15 = false at hk0
        obtain ⟨B2, k2, B5, k5, B11, k11, B17, k17, rfl, hlow, ht2, ht5, ht11, ht17⟩ := hJ
        intro hK
        have e14 : D 14 = true := hd 14 (by decide)
        have n17 : D 17 = false := hClo.no 17 rfl (k := 15) (by decide) hk0
        have n24 : D 24 = false := hClo.no 24 rfl (k := 15) (by decide) hk0
        have n19 : D 19 = false := hClo.no 19 rfl (k := 17) (by decide) n17
        have n20 : D 20 = false := hClo.no 20 rfl (k := 19) (by decide) n19
        have n21 : D 21 = false := hClo.no 21 rfl (k := 19) (by decide) n19
        have n22 : D 22 = false := hClo.no 22 rfl (k := 21) (by decide) n21
        have n23 : D 23 = false := hClo.no 23 rfl (k := 21) (by decide) n21
        clear hClo hd
        have y0 := (hlow.b.cell (p := ⟨b1 + 1, 0, none⟩) HSB2.out.lt).trans (HSB2.out.cell 0)
        have y1 := (hlow.b.cell (p := ⟨b1 + 1, 1, none⟩) HSB2.out.lt).trans (HSB2.out.cell 1)
        have y2 := (hlow.b.cell (p := ⟨b1 + 1, 2, none⟩) HSB2.out.lt).trans (HSB2.out.cell 2)
        have y3 := (hlow.b.cell (p := ⟨b1 + 1, 3, none⟩) HSB2.out.lt).trans (HSB2.out.cell 3)
        have y4 := (hlow.b.cell (p := ⟨b1 + 1, 4, none⟩) HSB2.out.lt).trans (HSB2.out.cell 4)
        have y5 := (hlow.b.cell (p := ⟨b1 + 1, 5, none⟩) HSB2.out.lt).trans (HSB2.out.cell 5)
        have y6 := (hlow.b.cell (p := ⟨b1 + 1, 6, none⟩) HSB2.out.lt).trans (HSB2.out.cell 6)
        simp only [List.getElem?_toArray, List.getElem?_cons_zero, List.getElem?_cons_succ] at y0 y1 y2 y3 y4 y5 y6
        simp only [upd, Act.put, List.setIfInBounds_toArray, List.set_cons_zero, List.set_cons_succ, e14]
        go_wp2_with fail
        refine hK _ _ ⟨B2, k2, B5, k5, B11, k11, B17, k17, ?_, ?_, ?_, ?_, ?_, ?_⟩
        · clear hK
          simp [upd, Act.put, also, *]
        · exact hlow
        · exact fun h => (ht2 (by simpa [also] using h))
        · exact fun h => (ht5 (by simpa [also] using h))
        · exact fun h => (ht11 (by simpa [also] using h))
        · exact fun h => by simp [also, *] at h
      · intro D a w' K hClo hk0 hd hJ
        change D 16 = false at hk0
        obtain ⟨B2, k2, B5, k5, B11, k11, B17, k17, rfl, hlow, ht2, ht5, ht11, ht17⟩ := hJ
        intro hK
        have e14 : D 14 = true := hd 14 (by decide)
        have n17 : D 17 = false := hClo.no 17 rfl (k := 16) (by decide) hk0
        have n24 : D 24 = false := hClo.no 24 rfl (k := 16) (by decide) hk0
        have n19 : D 19 = false := hClo.no 19 rfl (k := 17) (by decide) n17
        have n20 : D 20 = false := hClo.no 20 rfl (k := 19) (by decide) n19
        have n21 : D 21 = false := hClo.no 21 rfl (k := 19) (by decide) n19
        have n22 : D 22 = false := hClo.no 22 rfl (k := 21) (by decide) n21
        have n23 : D 23 = false := hClo.no 23 rfl (k := 21) (by decide) n21
        clear hClo hd
        have y0 := (hlow.b.cell (p := ⟨b1, 0, none⟩) HSA2.out.lt).trans (HSA2.out.cell 0)
        have y1 := (hlow.b.cell (p := ⟨b1, 1, none⟩) HSA2.out.lt).trans (HSA2.out.cell 1)
        have y2 := (hlow.b.cell (p := ⟨b1, 2, none⟩) HSA2.out.lt).trans (HSA2.out.cell 2)
        have y3 := (hlow.b.cell (p := ⟨b1, 3, none⟩) HSA2.out.lt).trans (HSA2.out.cell 3)
        have y4 := (hlow.b.cell (p := ⟨b1, 4, none⟩) HSA2.out.lt).trans (HSA2.out.cell 4)
        have y5 := (hlow.b.cell (p := ⟨b1, 5, none⟩) HSA2.out.lt).trans (HSA2.out.cell 5)
        have y6 := (hlow.b.cell (p := ⟨b1, 6, none⟩) HSA2.out.lt).trans (HSA2.out.cell 6)
        simp only [List.getElem?_toArray, List.getElem?_cons_zero, List.getElem?_cons_succ] at y0 y1 y2 y3 y4 y5 y6
        simp only [upd, Act.put, List.setIfInBounds_toArray, List.set_cons_zero, List.set_cons_succ, e14]
        go_wp2_with fail
        refine hK _ _ ⟨B2, k2, B5, k5, B11, k11, B17, k17, ?_, ?_, ?_, ?_, ?_, ?_⟩
        · clear hK
          simp [upd, Act.put, also, *]
        · exact hlow
        · exact fun h => (ht2 (by simpa [also] using h))
        · exact fun h => (ht5 (by simpa [also] using h))
        · exact fun h => (ht11 (by simpa [also] using h))
        · exact fun h => by simp [also, *] at h
      · intro D a w' K hClo hk0 hd hJ
        change D 17 = false at hk0
        obtain ⟨B2, k2, B5, k5, B11, k11, B17, k17, rfl, hlow, ht2, ht5, ht11, ht17⟩ := hJ
        intro hK
        have e14 : D 14 = true := hd 14 (by decide)
        have e15 : D 15 = true := hd 15 (by decide)
        have e16 : D 16 = true := hd 16 (by decide)
        have n19 : D 19 = false := hClo.no 19 rfl (k := 17) (by decide) hk0
        have n24 : D 24 = false := hClo.no 24 rfl (k := 17) (by decide) hk0
        have n20 : D 20 = false := hClo.no 20 rfl (k := 19) (by decide) n19
        have n21 : D 21 = false := hClo.no 21 rfl (k := 19) (by decide) n19
        have n22 : D 22 = false := hClo.no 22 rfl (k := 21) (by decide) n21
        have n23 : D 23 = false := hClo.no 23 rfl (k := 21) (by decide) n21
        clear hClo hd
        have hcall := HCD.out w' hlow.b
        have HC := hide hcall
        clear hcall
        simp only [upd, Act.put, List.setIfInBounds_toArray, List.set_cons_zero, List.set_cons_succ, e14, e15, e16]
        go_wp2_with fail
        with_reducible refine HC.out.mono ?_
        rintro e w2 ⟨Aw, cw, rfl, hrw, hB2⟩
        go_wp2_with fail
        refine hK _ _ ⟨B2, k2, B5, k5, B11, k11, Aw, cw, ?_, ?_, ?_, ?_, ?_, ?_⟩
        · clear hK
          simp [upd, Act.put, also, *]
        · exact hlow.below hB2
        · exact fun h => (ht2 (by simpa [also] using h)).below hB2
        · exact fun h => (ht5 (by simpa [also] using h)).below hB2
        · exact fun h => (ht11 (by simpa [also] using h)).below hB2
        · exact fun _ => ⟨hrw⟩
      · intro D a w' K hClo hk0 hd hJ
        change D 18 = false at hk0
        obtain ⟨B2, k2, B5, k5, B11, k11, B17, k17, rfl, hlow, ht2, ht5, ht11, ht17⟩ := hJ
        intro hK
        have e14 : D 14 = true := hd 14 (by decide)
        have n19 : D 19 = false := hClo.no 19 rfl (k := 18) (by decide) hk0
        have n24 : D 24 = false := hClo.no 24 rfl (k := 18) (by decide) hk0
        have n20 : D 20 = false := hClo.no 20 rfl (k := 19) (by decide) n19
        have n21 : D 21 = false := hClo.no 21 rfl (k := 19) (by decide) n19
        have n22 : D 22 = false := hClo.no 22 rfl (k := 21) (by decide) n21
        have n23 : D 23 = false := hClo.no 23 rfl (k := 21) (by decide) n21
        clear hClo hd
        simp only [upd, Act.put, List.setIfInBounds_toArray, List.set_cons_zero, List.set_cons_succ, e14]
        go_wp2_with fail
        refine hK _ _ ⟨B2, k2, B5, k5, B11, k11, B17, k17, ?_, ?_, ?_, ?_, ?_, ?_⟩
        · clear hK
          simp [upd, Act.put, also, *]
        · exact hlow
        · exact fun h => (ht2 (by simpa [also] using h))
        · exact fun h => (ht5 (by simpa [also] using h))
        · exact fun h => (ht11 (by simpa [also] using h))
        · exact fun h => (ht17 (by simpa [also] using h))
      · intro D a w' K hClo hk0 hd hJ
        change D 19 = false at hk0
        obtain ⟨B2, k2, B5, k5, B11, k11, B17, k17, rfl, hlow, ht2, ht5, ht11, ht17⟩ := hJ
        intro hK
        have e14 : D 14 = true := hd 14 (by decide)
        have e17 : D 17 = true := hd 17 (by decide)
        have e18 : D 18 = true := hd 18 (by decide)
        have n20 : D 20 = false := hClo.no 20 rfl (k := 19) (by decide) hk0
        have n21 : D 21 = false := hClo.no 21 rfl (k := 19) (by decide) hk0
        have n24 : D 24 = false := hClo.no 24 rfl (k := 19) (by decide) hk0
        have n22 : D 22 = false := hClo.no 22 rfl (k := 21) (by decide) n21
        have n23 : D 23 = false := hClo.no 23 rfl (k := 21) (by decide) n21
        clear hClo hd
        have hcall := samestr_any B17 Ad k17 cdd w'.heap.size NP w' (ht17 e17).r ((HDR.out.below hlow.b).r) HNNP.out
        have HC := hide hcall
        clear hcall
        simp only [upd, Act.put, List.setIfInBounds_toArray, List.set_cons_zero, List.set_cons_succ, e14, e17, e18]
        go_wp2_with fail
        with_reducible refine HC.out.mono ?_
        rintro e w2 ⟨rfl, hB2⟩
        go_wp2_with fail
        refine hK _ _ ⟨B2, k2, B5, k5, B11, k11, B17, k17, ?_, ?_, ?_, ?_, ?_, ?_⟩
        · clear hK
          simp [upd, Act.put, also, *]
        · exact hlow.below hB2
        · exact fun h => (ht2 (by simpa [also] using h)).below hB2
        · exact fun h => (ht5 (by simpa [also] using h)).below hB2
        · exact fun h => (ht11 (by simpa [also] using h)).below hB2
        · exact fun h => (ht17 (by simpa [also] using h)).below hB2
      · intro D a w' K hClo hk0 hd hJ
        change D 20 = false at hk0
        obtain ⟨B2, k2, B5, k5, B11, k11, B17, k17, rfl, hlow, ht2, ht5, ht11, ht17⟩ := hJ
        intro hK
        have e14 : D 14 = true := hd 14 (by decide)
        have e19 : D 19 = true := hd 19 (by decide)
        have n21 : D 21 = false := hClo.no 21 rfl (k := 20) (by decide) hk0
        have n24 : D 24 = false := hClo.no 24 rfl (k := 20) (by decide) hk0
        have n22 : D 22 = false := hClo.no 22 rfl (k := 21) (by decide) n21
        have n23 : D 23 = false := hClo.no 23 rfl (k := 21) (by decide) n21
        clear hClo hd
        simp only [upd, Act.put, List.setIfInBounds_toArray, List.set_cons_zero, List.set_cons_succ, e14, e19]
        go_wp2_with fail
        refine hK _ _ ⟨B2, k2, B5, k5, B11, k11, B17, k17, ?_, ?_, ?_, ?_, ?_, ?_⟩
        · clear hK
          simp [upd, Act.put, also, *]
        · exact hlow
        · exact fun h => (ht2 (by simpa [also] using h))
        · exact fun h => (ht5 (by simpa [also] using h))
        · exact fun h => (ht11 (by simpa [also] using h))
        · exact fun h => (ht17 (by simpa [also] using h))
      · intro D a w' K hClo hk0 hd hJ
        change D 21 = false at hk0
        obtain ⟨B2, k2, B5, k5, B11, k11, B17, k17, rfl, hlow, ht2, ht5, ht11, ht17⟩ := hJ
        intro hK
        have e19 : D 19 = true := hd 19 (by decide)
        have e20 : D 20 = true := hd 20 (by decide)
        have n22 : D 22 = false := hClo.no 22 rfl (k := 21) (by decide) hk0
        have n23 : D 23 = false := hClo.no 23 rfl (k := 21) (by decide) hk0
        have n24 : D 24 = false := hClo.no 24 rfl (k := 21) (by decide) hk0
        clear hClo hd
        simp only [upd, Act.put, List.setIfInBounds_toArray, List.set_cons_zero, List.set_cons_succ, e19, e20]
        go_wp2_with fail
        refine hK _ _ ⟨B2, k2, B5, k5, B11, k11, B17, k17, ?_, ?_, ?_, ?_, ?_, ?_⟩
        · clear hK
          simp [upd, Act.put, also, *]
        · exact hlow
        · exact fun h => (ht2 (by simpa [also] using h))
        · exact fun h => (ht5 (by simpa [also] using h))
        · exact fun h => (ht11 (by simpa [also] using h))
        · exact fun h => (ht17 (by simpa [also] using h))
      · intro D a w' K hClo hk0 hd hJ
        change D 22 = false at hk0
        obtain ⟨B2, k2, B5, k5, B11, k11, B17, k17, rfl, hlow, ht2, ht5, ht11, ht17⟩ := hJ
        intro hK
        have e21 : D 21 = true := hd 21 (by decide)
        have n23 : D 23 = false := hClo.no 23 rfl (k := 22) (by decide) hk0
        have n24 : D 24 = false := hClo.no 24 rfl (k := 22) (by decide) hk0
        clear hClo hd
        have hcall := awake_any w'
        have HC := hide hcall
        clear hcall
        simp only [upd, Act.put, List.setIfInBounds_toArray, List.set_cons_zero, List.set_cons_succ, e21]
        go_wp2_with fail
        with_reducible refine HC.out.mono ?_
        rintro e w2 ⟨rfl, hB2⟩
        go_wp2_with fail
        refine hK _ _ ⟨B2, k2, B5, k5, B11, k11, B17, k17, ?_, ?_, ?_, ?_, ?_, ?_⟩
        · clear hK
          simp [upd, Act.put, also, *]
        · exact hlow.below hB2
        · exact fun h => (ht2 (by simpa [also] using h)).below hB2
        · exact fun h => (ht5 (by simpa [also] using h)).below hB2
        · exact fun h => (ht11 (by simpa [also] using h)).below hB2
        · exact fun h => (ht17 (by simpa [also] using h)).below hB2
      · intro D a w' K hClo hk0 hd hJ
        change D 23 = false at hk0
        obtain ⟨B2, k2, B5, k5, B11, k11, B17, k17, rfl, hlow, ht2, ht5, ht11, ht17⟩ := hJ
        intro hK
        have e21 : D 21 = true := hd 21 (by decide)
        have e22 : D 22 = true := hd 22 (by decide)
        have n24 : D 24 = false := hClo.no 24 rfl (k := 23) (by decide) hk0
        clear hClo hd
        simp only [upd, Act.put, List.setIfInBounds_toArray, List.set_cons_zero, List.set_cons_succ, e21, e22]
        go_wp2_with fail
        refine hK _ _ ⟨B2, k2, B5, k5, B11, k11, B17, k17, ?_, ?_, ?_, ?_, ?_, ?_⟩
        · clear hK
          simp [upd, Act.put, also, *]
        · exact hlow
        · exact fun h => (ht2 (by simpa [also] using h))
        · exact fun h => (ht5 (by simpa [also] using h))
        · exact fun h => (ht11 (by simpa [also] using h))
        · exact fun h => (ht17 (by simpa [also] using h))
      · intro D a w' K hClo hk0 hd hJ
        change D 24 = false at hk0
        obtain ⟨B2, k2, B5, k5, B11, k11, B17, k17, rfl, hlow, ht2, ht5, ht11, ht17⟩ := hJ
        intro hK
        have e0 : D 0 = true := hd 0 (by decide)
        have e1 : D 1 = true := hd 1 (by decide)
        have e2 : D 2 = true := hd 2 (by decide)
        have e3 : D 3 = true := hd 3 (by decide)
        have e4 : D 4 = true := hd 4 (by decide)
        have e5 : D 5 = true := hd 5 (by decide)
        have e6 : D 6 = true := hd 6 (by decide)
        have e7 : D 7 = true := hd 7 (by decide)
        have e8 : D 8 = true := hd 8 (by decide)
        have e9 : D 9 = true := hd 9 (by decide)
        have e10 : D 10 = true := hd 10 (by decide)
        have e11 : D 11 = true := hd 11 (by decide)
        have e12 : D 12 = true := hd 12 (by decide)
        have e13 : D 13 = true := hd 13 (by decide)
        have e14 : D 14 = true := hd 14 (by decide)
        have e15 : D 15 = true := hd 15 (by decide)
        have e16 : D 16 = true := hd 16 (by decide)
        have e17 : D 17 = true := hd 17 (by decide)
        have e18 : D 18 = true := hd 18 (by decide)
        have e19 : D 19 = true := hd 19 (by decide)
        have e20 : D 20 = true := hd 20 (by decide)
        have e21 : D 21 = true := hd 21 (by decide)
        have e22 : D 22 = true := hd 22 (by decide)
        have e23 : D 23 = true := hd 23 (by decide)
        clear hClo hd
        simp only [upd, Act.put, List.setIfInBounds_toArray, List.set_cons_zero, List.set_cons_succ, e0, e1, e2, e3, e4, e5, e6, e7, e8, e9, e10, e11, e12, e13, e14, e15, e16, e17, e18, e19, e20, e21, e22, e23]
        go_wp2_with fail
        refine hK _ _ ⟨B2, k2, B5, k5, B11, k11, B17, k17, ?_, ?_, ?_, ?_, ?_, ?_⟩
        · clear hK
          simp [upd, Act.put, also, *]
        · exact hlow
        · exact fun h => (ht2 (by simpa [also] using h))
        · exact fun h => (ht5 (by simpa [also] using h))
        · exact fun h => (ht11 (by simpa [also] using h))
        · exact fun h => (ht17 (by simpa [also] using h))
    · intro D a' w5 hall hJ
      obtain ⟨B2, k2, B5, k5, B11, k11, B17, k17, rfl, hlow, ht2, ht5, ht11, ht17⟩ := hJ
      have e0 : D 0 = true := hall 0 (by decide)
      have e1 : D 1 = true := hall 1 (by decide)
      have e2 : D 2 = true := hall 2 (by decide)
      have e3 : D 3 = true := hall 3 (by decide)
      have e4 : D 4 = true := hall 4 (by decide)
      have e5 : D 5 = true := hall 5 (by decide)
      have e6 : D 6 = true := hall 6 (by decide)
      have e7 : D 7 = true := hall 7 (by decide)
      have e8 : D 8 = true := hall 8 (by decide)
      have e9 : D 9 = true := hall 9 (by decide)
      have e10 : D 10 = true := hall 10 (by decide)
      have e11 : D 11 = true := hall 11 (by decide)
      have e12 : D 12 = true := hall 12 (by decide)
      have e13 : D 13 = true := hall 13 (by decide)
      have e14 : D 14 = true := hall 14 (by decide)
      have e15 : D 15 = true := hall 15 (by decide)
      have e16 : D 16 = true := hall 16 (by decide)
      have e17 : D 17 = true := hall 17 (by decide)
      have e18 : D 18 = true := hall 18 (by decide)
      have e19 : D 19 = true := hall 19 (by decide)
      have e20 : D 20 = true := hall 20 (by decide)
      have e21 : D 21 = true := hall 21 (by decide)
      have e22 : D 22 = true := hall 22 (by decide)
      have e23 : D 23 = true := hall 23 (by decide)
      have e24 : D 24 = true := hall 24 (by decide)
      clear hall
      replace ht2 := ht2 e2
      replace ht5 := ht5 e5
      replace ht11 := ht11 e11
      replace ht17 := ht17 e17
      simp only [upd, Act.put, List.setIfInBounds_toArray, List.set_cons_zero, List.set_cons_succ, sel_true, e0, e1, e2, e3, e4, e5, e6, e7, e8, e9, e10, e11, e12, e13, e14, e15, e16, e17, e18, e19, e20, e21, e22, e23, e24]
      clear e0 e1 e2 e3 e4 e5 e6 e7 e8 e9 e10 e11 e12 e13 e14 e15 e16 e17 e18 e19 e20 e21 e22 e23 e24
      go_wp2_with fail
      go_ret
      exact ⟨rfl, HB4.out.trans (hlow.b.mono HB4.out.size)⟩
end Go.Proofs.YtjgbadopladmdaaDoor
