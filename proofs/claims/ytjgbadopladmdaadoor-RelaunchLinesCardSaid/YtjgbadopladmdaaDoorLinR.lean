/- The reference's Lines: the walk. -/
import Derived.Test.YtjgbadopladmdaaDoorLinW
import Derived.Test.YtjgbadopladmdaaDoorLinQ
import Derived.Deep.CutBlock
namespace Go.Proofs.YtjgbadopladmdaaDoor
open Go.RowKit Rel

theorem LineV.head {w : World} {base : Nat} {p : Value × List ByteArray} (h : LineV w base p) (hp : 0 < p.2.length) : ∃ g c, p.1 = .slice (some ⟨g, 0, none⟩) p.2.length c ∧ base ≤ g ∧ w.cell? ⟨g, 0, none⟩ = some (.string (fst p.2)) := by
  obtain ⟨g, c, hv, hbase, _⟩ := h.form hp
  refine ⟨g, c, hv, hbase, ?_⟩
  unfold LineV at h
  rw [hv] at h
  have h2 := h.cells (g := g) rfl 0 (.string (fst p.2)) (by
    obtain ⟨v, l⟩ := p
    cases l with
    | nil => exact absurd hp (by simp)
    | cons a t => rfl)
  exact h2
theorem Reads.pre {w : World} {B n : Nat} {A : Option Addr} {xs : List Value} (h : Reads w B 1 A n xs) {k : Nat} (hk : k ≤ n) : Reads w B 1 A k (xs.take k) := by
  refine ⟨by rw [List.length_take, h.1]; omega, fun h0 => ?_⟩
  obtain ⟨ad, e, hb, hc⟩ := h.2 (by omega)
  refine ⟨ad, e, hb, fun j u hu => hc j u ?_⟩
  rw [← List.take_append_drop k xs, List.getElem?_append_left ((List.getElem?_eq_some_iff.1 hu).1)]
  exact hu
theorem one_line {w : World} {base : Nat} {p : Value × List ByteArray} (h : LineV w base p) : p.1.oneCell' = true := by
  obtain ⟨A, c, e, _⟩ := own_form h
  rw [e]; rfl
theorem one_lines {w : World} {base : Nat} {zs : List (Value × List ByteArray)} (h : ∀ p ∈ zs, LineV w base p) : ∀ u ∈ zs.map (·.1), u.oneCell' = true := fun u hu => by
  obtain ⟨p, hp, rfl⟩ := List.mem_map.1 hu
  exact one_line (h p hp)
theorem key_less {s t : ByteArray} {b : Bool} (h : decide (key s < key t) = b) : Op.bytesLess s.toList t.toList = b := by
  rw [bytesLess_eq, Lib.toList_data, Lib.toList_data]
  exact h

set_option maxHeartbeats 8000000 in
set_option maxRecDepth 100000 in
theorem rlines_any (A : Option Addr) (n c B : Nat) (L : List Lk) (w : World) (h : Links w B A n L) (hB : B ≤ w.heap.size) (hcap : n ≤ c) :
    Calls Tryd.prog 46 #[.slice A n c] w (LinesR w L) := by
  obtain ⟨i9, hi, hi0, hi1, hi2⟩ := info_parts infoS
  obtain ⟨i62, f62, f0, f1, f2⟩ := info_parts infoL
  have hval := rvalidate_any A n c B L w h hB hcap
  have HV := hide hval
  clear hval
  by_cases hz : errno L = 0
  · have Hg := hide (good_of hz).1
    have He := hide hz
    have hval' : Calls Tryd.prog 42 #[.slice A n c] w fun e w' => e = .returned (.int .i64 0) ∧ Below w.heap.size w w' := by rw [← hz]; exact HV.out
    have HV' := hide hval'
    clear HV hval' hz
    have hsm := h.small
    have hLs : L.length ≤ 100000 := by have h1 := h.len; omega
    have Hl := hide h.len
    go_enter Tryd.func46, Tryd.ntmps46
    go_wp2_with fail
    with_reducible refine HV'.out.mono ?_
    rintro e w2 ⟨rfl, hbw⟩
    have hz2' := hbw.size
    go_wp2
    go_loopw [3, 18] (fun v i wr => ∃ k : Nat, k ≤ n ∧ i = .int .i64 k ∧ ∃ zs : List (Value × List ByteArray), wr.ownsRow w2.heap.size 62 1 v zs.length (zs.map (·.1)) ∧ Hid (∀ p ∈ zs, LineV wr w2.heap.size p) ∧ Hid (RGath L k zs) ∧ Below w2.heap.size w2 wr) (fun _ i _ => n - (intOf i).toNat)
    case atStart => exact ⟨0, Nat.zero_le _, rfl, [], ownsRow_nil' _ _ _ _, fun p hp => absurd hp (by simp), rgath_start L, Below.refl _ _⟩
    case round =>
      obtain ⟨k, hk, rfl, zs, hown, HL, HG, hb⟩ := hrel
      have hz3 := hb.size
      have hzl := HG.out.len
      by_cases hlt : k < n
      · have hbo := hbw.trans (hb.mono hz2')
        have hW := h.below (hbo.mono hB)
        obtain ⟨ad, s, m, rfl, hab, hL, c0, c1, hs0, hs1⟩ := hW.at_ hlt
        have HLk := hide hL
        have HW := hide hW
        clear hL hW
        have hbk := back_any (some ad) n c B L s (wr.alloc (.cells #[.string s, .string m] 74)) (HW.out.below ((Below.refl B wr).alloc (Nat.le_trans hB hbo.size) _)) (by have := hbo.size; simp; omega)
        have HBK := hide hbk
        clear hbk
        obtain ⟨wo, rfl⟩ : ∃ wo : World, wo = wr := ⟨_, rfl⟩
        cases hbk : back L s with
        | some o =>
          have Hbk := hide hbk
          rw [hbk] at HBK
          clear hbk
          go_wp2_with (first | (go_at_call 68; with_reducible refine HBK.out.mono ?_; rintro e w4 ⟨rfl, hB4⟩) | go_in)
          have hbw4 := ((Below.refl wo.heap.size wo).alloc (Nat.le_refl _) (.cells #[.string s, .string m] 74)).trans (hB4.mono (by simp))
          have hown4 := own_below hown hbw4 (own_block_lt hown)
          clear hB4
          go_roundw
          case rel => exact ⟨k + 1, by omega, by go_num, zs, hown4, fun p hp => (HL.out p hp).below hbw4 (Nat.le_refl _), rgath_skip HG.out HLk.out Hbk.out, hb.trans (hbw4.mono hz3)⟩
          case measure => simp [intOf]; omega
        | none =>
          have Hbk := hide hbk
          rw [hbk] at HBK
          clear hbk
          have hfs := forth_of_mem Hg.out.uniq (List.mem_of_getElem? HLk.out)
          have Hfs := hide hfs
          clear hfs
          go_wp2_with (first
            | (go_at_call 68
               with_reducible refine HBK.out.mono ?_
               rintro e w4 ⟨rfl, hB4⟩
               have hz4 := hB4.size
               rw [World.size_alloc] at hz4
               obtain ⟨y0, y1⟩ := box_cells hB4
               have y2 : ∀ o, (w4.alloc o).cell? ⟨wo.heap.size, 1, none⟩ = some (.string m) := fun o => (World.cell?_alloc_lt w4 o ⟨wo.heap.size, 1, none⟩ (by simp only; omega)).trans y1
               have hbw4 := ((Below.refl wo.heap.size wo).alloc (Nat.le_refl _) (.cells #[.string s, .string m] 74)).trans (hB4.mono (by simp))
               clear hB4)
            | go_in)
          go_loopg [8, 9, 10] L.length (fun g vl tl ol wr => ∃ (acc : List ByteArray) (cur nx : ByteArray), tl = .string nx ∧ ol = .bool (Rel.forth L cur).isSome ∧ Hid (∀ u, Rel.forth L cur = some u → nx = u) ∧ Hid (Walks L s acc g cur) ∧ wr.ownsRow w4.heap.size 9 1 vl acc.length (acc.map .string) ∧ Below w4.heap.size w4 wr)
          case atStart => exact ⟨[s], s, m, rfl, by rw [Hfs.out]; rfl, fun u hu => Option.some.inj (Hfs.out.symm.trans hu), walks_start L s, World.ownsRow_lit (size := 1) w4 #[.string s] (e := 9) 1 (Nat.le_refl _) (by decide) rfl, (Below.refl _ _).alloc (Nat.le_refl _) _⟩
          case round =>
            obtain ⟨acc, cur, nx, rfl, ho, Hto, HWk, hownl, hbl⟩ := hrel
            have hal := walks_len HWk.out
            have hzl2 := hbl.size
            cases hf : Rel.forth L cur with
            | none =>
              rw [hf] at ho
              simp only [Option.isSome_none] at ho
              subst ho
              have HE := hide (walks_end HWk.out hf)
              clear hf
              have hown4 := own_below hown hbw4 (own_block_lt hown)
              have hownO := own_below hown4 hbl (own_block_lt hown4)
              have HLO : Hid (∀ p ∈ zs, LineV wr w2.heap.size p) := fun p hp => ((HL.out p hp).below hbw4 (Nat.le_refl _)).below hbl (Nat.le_refl _)
              have hwr : Below w2.heap.size w2 wr := (hb.trans (hbw4.mono hz3)).trans (hbl.mono (Nat.le_trans hz3 hbw4.size))
              obtain ⟨A2, c2, rfl, hnc, hcm⟩ := own_form hownO
              unfold maxLen at hcm
              obtain ⟨Al, cl, rfl, _, _⟩ := own_form hownl
              have hln : LineV wr w4.heap.size (.slice Al acc.length cl, acc) := hownl
              obtain ⟨gl, cl2, hvl, _, hlc⟩ := hln.head (walks_pos HWk.out)
              have hvl2 : Al = some ⟨gl, 0, none⟩ := by injection hvl
              subst hvl2
              have hlc' : wr.cell? ⟨gl, 0, none⟩ = some (.string s) := by rw [hlc, HE.out, fst_lineFrom]
              have hap := walks_pos HWk.out
              have HHl := hide hln
              have HHO := hide hownO
              clear hvl hlc hln hown hownl hown4 HL hbl hb hbw4
              generalize hla : acc.length = la at hap ⊢
              have Hla := hide hla
              clear hla
              go_wp2_with fail
              go_loopw [11] (fun jv wi => ∃ j : Nat, j ≤ zs.length ∧ jv = .int .i64 j ∧ Hid (Ins zs s j) ∧ ∃ q, wi = wr.drewN q) (fun jv _ => (intOf jv).toNat)
              case atStart => exact ⟨zs.length, Nat.le_refl _, rfl, ins_start zs s, 0, rfl⟩
              case round =>
                obtain ⟨j, hj, rfl, Hp, q, rfl⟩ := hrel
                by_cases hgo : ∃ i p, j = i + 1 ∧ zs[i]? = some p ∧ key s < fk p
                · obtain ⟨i, p, rfl, hy, hlt2⟩ := hgo
                  obtain ⟨gp, cp, hpv, _, hpc⟩ := (HLO.out p (List.mem_of_getElem? hy)).head (rgath_pos HG.out (List.mem_of_getElem? hy))
                  have hpp := rgath_pos HG.out (List.mem_of_getElem? hy)
                  obtain ⟨adg, hA2, _, hcg⟩ := (Reads.of_own HHO.out).2 (by omega)
                  subst hA2
                  have hy2 := hcg i p.1 (by rw [List.getElem?_map, hy]; rfl)
                  rw [hpv] at hy2
                  have hlt' : Op.bytesLess s.toList (fst p.2).toList = true := key_less (decide_eq_true hlt2)
                  have Hst := hide (ins_step Hp.out hy hlt2)
                  have hlz : i < zs.length := by omega
                  have hlb : zs.length ≤ 100000 := by omega
                  generalize zs.length = lz at hj hlz hlb ⊢
                  generalize p.2.length = lp at hpp hy2 ⊢
                  generalize fst p.2 = sp at hlt' hpc ⊢
                  clear hy hlt2 hcg hpv
                  have j0 : (0 : Int) ≤ (i : Int) := by omega
                  have j1 : (i : Int) < (lz : Int) := by omega
                  have j2 : (0 : Int) < (i : Int) + 1 := by omega
                  have q2 : IntKind.i64.wrap (i : Int) = i := IntWalk.i64_in _ (by omega)
                  have q3 : IntKind.i64.wrap ((i : Int) + 1 - 1) = i := by rw [Int.add_sub_cancel]; exact q2
                  rw [show ((i + 1 : Nat) : Int) = (i : Int) + 1 from rfl]
                  go_wp2_with fail
                  go_quiet (fail)
                  go_wp2_with fail
                  clear q2 q3
                  go_roundw
                  case rel => exact ⟨i, by omega, by go_num, Hst.out, _, rfl⟩
                  case measure => simp [intOf]
                · have hpl : Place zs s j := by
                    refine ⟨Hp.out, ?_⟩
                    rcases Nat.eq_zero_or_pos j with h0 | h0
                    · exact .inl h0
                    · have hy : zs[j - 1]? = some (zs[j - 1]'(by omega)) := List.getElem?_eq_getElem _
                      exact .inr ⟨_, hy, fun hlt2 => hgo ⟨j - 1, _, by omega, hy, hlt2⟩⟩
                  have HPL := hide hpl
                  clear hgo hpl
                  have hlb : zs.length ≤ 100000 := by omega
                  have HJ := hide hj
                  rcases Nat.eq_zero_or_pos j with hj0 | hj0
                  case' inl =>
                    have hd : decide (0 < j) = false := by simp; omega
                    clear hj0
                    go_wp2_with fail
                    go_quiet (fail)
                    clear hd
                    go_upto_region 17 with (fail)
                  case' inr =>
                    rcases HPL.out.2 with h0 | ⟨p, hy, hnl⟩
                    · omega
                    obtain ⟨i, rfl⟩ : ∃ i, j = i + 1 := ⟨j - 1, by omega⟩
                    rw [Nat.add_sub_cancel] at hy
                    obtain ⟨gp, cp, hpv, _, hpc⟩ := (HLO.out p (List.mem_of_getElem? hy)).head (rgath_pos HG.out (List.mem_of_getElem? hy))
                    have hpp := rgath_pos HG.out (List.mem_of_getElem? hy)
                    obtain ⟨adg, hA2, _, hcg⟩ := (Reads.of_own HHO.out).2 (by omega)
                    subst hA2
                    have hy2 := hcg i p.1 (by rw [List.getElem?_map, hy]; rfl)
                    rw [hpv] at hy2
                    have hlt' : Op.bytesLess s.toList (fst p.2).toList = false := key_less (decide_eq_false hnl)
                    have hlz : i < zs.length := by omega
                    generalize p.2.length = lp at hpp hy2 ⊢
                    generalize fst p.2 = sp at hlt' hpc ⊢
                    clear hy hnl hcg hpv
                    have j0 : (0 : Int) ≤ (i : Int) := by omega
                    have j1 : (i : Int) < (zs.length : Int) := by omega
                    have j2 : (0 : Int) < (i : Int) + 1 := by omega
                    have q2 : IntKind.i64.wrap (i : Int) = i := IntWalk.i64_in _ (by omega)
                    have q3 : IntKind.i64.wrap ((i : Int) + 1 - 1) = i := by rw [Int.add_sub_cancel]; exact q2
                    rw [show ((i + 1 : Nat) : Int) = (i : Int) + 1 from rfl]
                    go_wp2_with fail
                    go_quiet (fail)
                    clear q2 q3 j0 j1 j2 hlt' hy2 hpc hpp hlz hj0
                    rw [show (i : Int) + 1 = ((i + 1 : Nat) : Int) from rfl]
                    generalize i + 1 = j at hj Hp HPL HJ ⊢
                    generalize some adg = A2 at HHO ⊢
                    go_upto_region 17 with (fail)
                  all_goals
                    have q0 : (j : Int) ≤ (zs.length : Int) := by omega
                    have q1 : (j : Int) ≤ (c2 : Int) := by omega
                    have hO2 : ((wr.drewN q).drewN nq).ownsRow w2.heap.size 62 1 (.slice A2 zs.length c2) zs.length (zs.map (·.1)) := HHO.out
                    have HL2 : Hid (∀ p ∈ zs, LineV ((wr.drewN q).drewN nq) w2.heap.size p) := HLO.out
                    have HN2 : Hid (LineV ((wr.drewN q).drewN nq) w4.heap.size (.slice (some ⟨gl, 0, none⟩) acc.length cl, acc)) := HHl.out
                    have hw2 : Below w2.heap.size w2 ((wr.drewN q).drewN nq) := below_drewN (below_drewN hwr q) nq
                    have hzW : w4.heap.size ≤ ((wr.drewN q).drewN nq).heap.size := hzl2
                    generalize (wr.drewN q).drewN nq = W at hO2 HL2 HN2 hw2 hzW ⊢
                    have hrd := Reads.of_own hO2
                    have HR1 := hide (hrd.pre hj)
                    have hrc := hrd.cut (cap := c2) (k := j) hj hnc
                    rw [Nat.mul_one] at hrc
                    have HRC : Hid (∀ V, Below W.heap.size W V → Reads V W.heap.size 1 (if c2 = j then A2 else A2.map (·.add j)) (zs.length - j) ((zs.map (·.1)).drop j)) := fun V hV => hrc.below hV
                    have Hone := hide (one_lines HL2.out)
                    have HW2 := hide hw2
                    clear hrd hrc hO2 HLO HHl hwr hownO HHO hw2
                    go_wp2_with (first
                      | (at_builtin; refine wpList_append_copy W rfl _ _ 69 rfl 62 i62 _ 1 24 Tryd.underlying69 f62 f0 f1 f2 rfl (by omega) (by omega) rfl rfl A2 j c2 _ rfl HR1.out (fun u hu => Hone.out u (List.mem_of_mem_take hu)) (by omega) ?_
                         intro v5 w5 hown5 hb5
                         have hs5 := hb5.size)
                      | (at_builtin; refine wpList_append_elem' w5 w5.heap.size rfl rfl _ _ 69 rfl W.heap.size 62 i62 _ 1 24 Tryd.underlying69 f62 f0 f1 f2 rfl (by omega) (by omega) _ j _ rfl hown5 #[.slice (some ⟨gl, 0, none⟩) la cl] rfl rfl rfl (by simp [Value.oneCell']) (by omega) hs5 ?_
                         intro v6 w6 hown6 hg6 _
                         have hb6 := below_own hb5 hown5 hg6 (Nat.le_refl _) hs5
                         have hs6 := hb6.size
                         clear hg6)
                      | (at_builtin; refine wpList_append_any w6 rfl _ _ 69 rfl W.heap.size 62 i62 _ 1 24 Tryd.underlying69 f62 f0 f1 f2 rfl (by omega) _ (j + 1) _ rfl hown6 W.heap.size _ (zs.length - j) _ _ rfl (HRC.out w6 hb6) (fun u hu => Hone.out u (List.mem_of_mem_drop hu)) (by unfold maxLen; omega) (by omega) hs6 ?_
                         intro v8 w8 hown8 hg8 _
                         have hb8 := below_own hb6 hown6 hg8 (Nat.le_refl _) hs6
                         clear hg8)
                      | go_in)
                    have hown9 : w8.ownsRow w2.heap.size 62 1 v8 (zs.take j ++ [(Value.slice (some ⟨gl, 0, none⟩) acc.length cl, acc)] ++ zs.drop j).length ((zs.take j ++ [(Value.slice (some ⟨gl, 0, none⟩) acc.length cl, acc)] ++ zs.drop j).map (·.1)) := by
                      have e1 : (zs.take j ++ [(Value.slice (some ⟨gl, 0, none⟩) acc.length cl, acc)] ++ zs.drop j).length = j + 1 + (zs.length - j) := by simp; omega
                      rw [e1, List.map_append, List.map_append, List.map_take, List.map_drop, Hla.out]
                      exact ownsRow_base hown8 (Nat.le_trans (Nat.le_trans hz3 (by omega)) hzW)
                    have HL9 : Hid (∀ p ∈ zs.take j ++ [(Value.slice (some ⟨gl, 0, none⟩) acc.length cl, acc)] ++ zs.drop j, LineV w8 w2.heap.size p) := fun p hp => by
                      rcases List.mem_append.1 hp with hp | hp
                      · rcases List.mem_append.1 hp with hp | hp
                        · exact (HL2.out p (List.mem_of_mem_take hp)).below hb8 (Nat.le_refl _)
                        · obtain rfl : p = (Value.slice (some ⟨gl, 0, none⟩) acc.length cl, acc) := by simpa using hp
                          exact (HN2.out.below hb8 (Nat.le_refl _)).base_ (by omega)
                      · exact (HL2.out p (List.mem_of_mem_drop hp)).below hb8 (Nat.le_refl _)
                    have HG9 : Hid (RGath L (k + 1) (zs.take j ++ [(Value.slice (some ⟨gl, 0, none⟩) acc.length cl, acc)] ++ zs.drop j)) := by
                      have h1 := rgath_put (v := Value.slice (some ⟨gl, 0, none⟩) acc.length cl) Hg.out.uniq HG.out HLk.out Hbk.out HPL.out HJ.out
                      rw [← HE.out] at h1
                      exact h1
                    have hb9 := HW2.out.trans (hb8.mono (by omega))
                    clear hown8 hown6 hown5 hb8 hb6 hb5
                    go_roundw
                    case rel => exact ⟨k + 1, by omega, by go_num, _, hown9, HL9, HG9, hb9⟩
                    case measure => simp [intOf]; omega
            | some o =>
              rw [hf] at ho
              simp only [Option.isSome_some] at ho
              subst ho
              have e0 := Hto.out o hf
              subst e0
              obtain ⟨g', e, hw'⟩ := walks_next Hg.out HWk.out hf
              have He' := hide e
              have HW' := hide hw'
              clear e hw' hf
              have hfc := fun W (hW : Below w.heap.size w W) => forth_any (some ad) n c B L nx W (h.below (hW.mono hB)) (Nat.le_trans hB hW.size)
              have HFC := hide hfc
              clear hfc
              go_wp2_with (first
                | (at_builtin; refine wpList_append_elem' wr wr.heap.size rfl rfl _ _ 62 rfl w4.heap.size 9 i9 _ 1 16 Tryd.underlying62 hi hi0 hi1 hi2 rfl (by omega) (by omega) _ acc.length _ rfl hownl #[.string nx] rfl rfl rfl (by simp [Value.oneCell']) (by omega) (by omega) ?_
                   intro v6 w6 hown6 hg6 _
                   have hb6 := below_own hbl hownl hg6 (Nat.le_refl _) hzl2
                   rw [snoc_map] at hown6
                   have hW6 := (hbo.trans (hbw4.mono hbo.size)).trans (hb6.mono (Nat.le_trans hbo.size hbw4.size)))
                | (go_at_call 71
                   with_reducible refine (HFC.out _ hW6).mono ?_
                   rintro e w7 ⟨rfl, hB7⟩
                   have hb7 := hb6.trans (hB7.mono hb6.size)
                   have hown7 := own_below hown6 hB7 (own_block_lt hown6)
                   clear hB7)
                | go_in)
              have hown8 : w7.ownsRow w4.heap.size 9 1 v6 (acc ++ [nx]).length ((acc ++ [nx]).map .string) := by
                rw [List.length_append]
                exact hown7
              go_roundg g'
              case measure => have := He'.out; omega
              case rel => exact ⟨acc ++ [nx], nx, _, rfl, rfl, fun u hu => by rw [hu]; rfl, HW'.out, hown8, hb7⟩
      · obtain rfl : k = n := by omega
        go_wp2
        go_ret
        refine ⟨_, zs.map (·.2), rfl, ⟨zs, rfl, ownsRow_base hown hz2', fun p hp => (HL.out p hp).base_ hz2'⟩, ⟨fun _ => rgath_end HG.out Hl.out, fun hne => absurd He.out hne⟩, hbw.trans (hb.mono hz2')⟩
  · have hne := err_ne hz
    have Hz := hide hz
    clear hz
    go_enter Tryd.func46, Tryd.ntmps46
    go_wp2_with fail
    with_reducible refine HV.out.mono ?_
    rintro e w1 ⟨rfl, hB1⟩
    go_wp2
    go_ret
    exact ⟨_, [], rfl, Lined.nil _ _, ⟨fun he => absurd he Hz.out, fun _ => rfl⟩, hB1⟩
end Go.Proofs.YtjgbadopladmdaaDoor
