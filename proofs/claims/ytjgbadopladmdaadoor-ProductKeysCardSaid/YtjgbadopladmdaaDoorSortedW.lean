/- The walk of the reference's Sorted. -/
import Derived.Test.YtjgbadopladmdaaDoorSortW
import Derived.Test.YtjgbadopladmdaaDoorNormW
namespace Go.Proofs.YtjgbadopladmdaaDoor
open Go.RowKit
open Rel (Lk)

/-- a shorter head of an own row -/
theorem own_head {w : World} {base n c j : Nat} {e : TypeId} {size : Nat} {A : Option Addr} {xs : List Value} (h : w.ownsRow base e size (.slice A n c) n xs) (hj : j ≤ n) : w.ownsRow base e size (.slice A j c) j (xs.take (j * size)) := by
  have hl := h.1
  have hjn : j * size ≤ n * size := Nat.mul_le_mul_right _ hj
  refine ⟨by rw [List.length_take]; omega, ?_⟩
  rcases h.2 with ⟨h0, hx⟩ | ⟨g, cap, cur, hv, hb, hh, r1, r2, r3, r4⟩
  · injection h0 with h1 h2 h3
    subst h1 h2 h3
    have : j = 0 := by omega
    subst this
    exact .inl ⟨rfl, rfl⟩
  · injection hv with h1 h2 h3
    subst h1 h3
    refine .inr ⟨g, c, cur, rfl, hb, hh, by omega, r2, r3, ?_⟩
    rw [← r4, List.take_take, Nat.min_eq_left hjn]

theorem put_cells (S : List Lk) (x : Lk) (k j : Nat) (hk : S.length = k) (hp : j = Srt.posn x S S.length) : (S.flatMap lc).take (j * 2) ++ ([Value.string x.1, .string x.2] ++ (S.flatMap lc).drop (j * 2)) = (Srt.put S x).flatMap lc := by
  have hj : j ≤ S.length := by rw [hp]; exact Srt.posn_le x S S.length
  have e : S.flatMap lc = (S.take j).flatMap lc ++ (S.drop j).flatMap lc := by rw [← List.flatMap_append, List.take_append_drop]
  have hl : ((S.take j).flatMap lc).length = j * 2 := by rw [flat_len lc_len, List.length_take]; omega
  rw [e, List.take_left' hl, List.drop_left' hl]
  unfold Srt.put
  rw [← hp, List.flatMap_append, List.flatMap_cons]
  rfl

theorem app_one (x1 x2 : ByteArray) (L : List Lk) (m : Nat) : ∀ u ∈ (#[Value.string x1, .string x2] : Array Value).toList ++ (L.flatMap lc).drop m, u.oneCell' = true := by
  intro u hu
  rcases List.mem_append.1 hu with h | h
  · simp only [List.mem_cons, List.not_mem_nil, or_false] at h
    rcases h with rfl | rfl <;> rfl
  · exact lc_one_drop L m u h

set_option maxHeartbeats 4000000 in
set_option maxRecDepth 100000 in
theorem sorted_any (A : Option Addr) (n c B : Nat) (L : List Lk) (w : World) (h : Recs lc 2 w B A n L) (hB : B ≤ w.heap.size) (hn : n ≤ 1000) :
    Calls Tryd.prog 60 #[.slice A n c] w fun e w' => ∃ v, e = .returned v ∧ w'.ownsRow w.heap.size 57 2 v n ((Srt.srt L).flatMap lc) ∧ Below w.heap.size w w' := by
  obtain ⟨i0, hi, hz0, hz1, hz2⟩ := info_parts info57
  have hlen := h.len
  have Hl := hide hlen
  clear hlen
  go_enter Tryd.func60, Tryd.ntmps60
  go_wp2
  go_loopw [3, 9] (fun v i wr => ∃ k : Nat, k ≤ n ∧ i = .int .i64 k ∧ wr.ownsRow w.heap.size 57 2 v k ((Srt.srt (L.take k)).flatMap lc) ∧ Below w.heap.size w wr) (fun _ i _ => n - (intOf i).toNat)
  case atStart => exact ⟨0, Nat.zero_le _, rfl, ownsRow_nil' _ _ _ _, Below.refl _ _⟩
  case round =>
    obtain ⟨k, hk, rfl, hown, hb⟩ := hrel
    have hz := hb.size
    by_cases hlt : k < n
    · obtain ⟨ad, x, rfl, hab, hX, c0, cj⟩ := (h.below (hb.mono hB)).at_ lc_len (by omega) hlt
      have c1 := cj 1 (by omega) (by omega)
      obtain ⟨x1, x2⟩ := x
      simp only [lc, List.getElem?_cons_zero, List.getElem?_cons_succ] at c0 c1
      have hS : (Srt.srt (L.take k)).length = k := by rw [Srt.srt_len, List.length_take]; have := Hl.out; omega
      generalize hSe : Srt.srt (L.take k) = S at hown hS
      have HX := hide hX
      have HS := hide hS
      have HSe := hide hSe
      clear cj hX hS hSe
      obtain ⟨A2, c2, rfl, hnc, hcm⟩ := own_form hown
      unfold maxLen at hcm
      obtain ⟨wo, rfl⟩ : ∃ wo : World, wo = wr := ⟨_, rfl⟩
      go_wp2
      have hownW := hown.alloc (.cells #[.string x1, .string x2] 57)
      have hbW := hb.alloc hz (.cells #[.string x1, .string x2] 57)
      have hbk := Blk.new wo 57 #[.string x1, .string x2]
      generalize wo.alloc (.cells #[.string x1, .string x2] 57) = W at hownW hbW hbk ⊢
      have a0 := hbk.cell 0
      have a1 := hbk.cell 1
      simp only [List.getElem?_toArray, List.getElem?_cons_zero, List.getElem?_cons_succ] at a0 a1
      have hog : ∀ g, (Value.slice A2 k c2).ownBlock = some g → g < wo.heap.size := own_block_lt hown
      have HG := hide hog
      clear hog
      have HO := hide hownW
      have HB := hide hbW
      have HBK := hide hbk
      clear hownW hbW hbk hown hb c0 c1
      go_loopw [6] (fun jv wi => ∃ j : Nat, j ≤ k ∧ jv = .int .i64 j ∧ Hid (Srt.posn (x1, x2) S j = Srt.posn (x1, x2) S S.length) ∧ ∃ q, wi = W.drewN q) (fun jv _ => (intOf jv).toNat)
      case atStart => exact ⟨k, Nat.le_refl _, rfl, (show Srt.posn (x1, x2) S k = Srt.posn (x1, x2) S S.length by rw [HS.out]), 0, rfl⟩
      case round =>
        obtain ⟨j, hj, rfl, Hp, q, rfl⟩ := hrel
        by_cases hgo : 0 < j ∧ (S[j - 1]?.map (Srt.lt (x1, x2))).getD false = true
        · obtain ⟨hj0, hgo⟩ := hgo
          obtain ⟨i, rfl⟩ : ∃ i, j = i + 1 := ⟨j - 1, by omega⟩
          have hy : S[i]? = some (S[i]'(by have := HS.out; omega)) := List.getElem?_eq_getElem _
          generalize (S[i]'(by have := HS.out; omega)) = y at hy
          rw [Nat.add_sub_cancel, hy] at hgo
          have hl2 : Srt.lt (x1, x2) y = true := by simpa using hgo
          obtain ⟨adg, hA2, _, hcg⟩ := (Reads.of_own HO.out).2 (by omega)
          subst hA2
          have hy2 := hcg _ _ (flat_get S i y hy).1
          have hlt' : Op.bytesLess x1.toList y.1.toList = true := hl2
          have HY := hide hy
          have HL2 := hide hl2
          clear hgo hl2 hcg hy
          have j0 : (0 : Int) ≤ (i : Int) := by omega
          have j1 : (i : Int) < (k : Int) := by omega
          have j2 : (0 : Int) < (i : Int) + 1 := by omega
          have q2 : IntKind.i64.wrap (i : Int) = i := IntWalk.i64_in _ (by omega)
          have q3 : IntKind.i64.wrap ((i : Int) + 1 - 1) = i := by rw [Int.add_sub_cancel]; exact q2
          rw [show ((i + 1 : Nat) : Int) = (i : Int) + 1 from rfl]
          go_wp2_with fail
          go_quiet (fail)
          go_wp2_with fail
          clear q2 q3
          go_roundw
          case rel => exact ⟨i, by omega, by go_num, (show Srt.posn (x1, x2) S i = Srt.posn (x1, x2) S S.length from (Srt.posn_step HY.out HL2.out).symm.trans Hp.out), _, rfl⟩
          case measure => simp [intOf]
        · have hp : j = Srt.posn (x1, x2) S S.length := by
            rw [← Hp.out]
            rcases j with _ | j
            · rfl
            · show j + 1 = if _ then _ else _
              rw [if_neg]
              intro h
              exact hgo ⟨Nat.succ_pos j, by simpa using h⟩
          have HP := hide hp
          clear hp
          rcases Nat.eq_zero_or_pos j with hj0 | hj0
          case inl =>
            have hd : decide (0 < j) = false := by simp; omega
            clear hgo hj0
            go_wp2_with fail
            go_quiet (fail)
            go_wp2_with fail
            have hO2 : ((W.drewN q).drewN nq).ownsRow w.heap.size 57 2 (.slice A2 k c2) k (S.flatMap lc) := HO.out
            have hB2 : Below w.heap.size w ((W.drewN q).drewN nq) := below_drewN (below_drewN HB.out q) nq
            have hK2 : Blk ((W.drewN q).drewN nq) wo.heap.size 57 #[.string x1, .string x2] := HBK.out
            have hzw : w.heap.size ≤ ((W.drewN q).drewN nq).heap.size := hB2.size
            generalize (W.drewN q).drewN nq = wi at hO2 hB2 hK2 hzw ⊢
            clear a0 a1
            have b0 := hK2.cell 0
            have b1 := hK2.cell 1
            simp only [List.getElem?_toArray, List.getElem?_cons_zero, List.getElem?_cons_succ] at b0 b1
            have hwl := hK2.lt
            have q0 : (j : Int) ≤ (k : Int) := by omega
            have q1 : (j : Int) ≤ (c2 : Int) := by omega
            have E1 := hide (World.ownsRow_lit (size := 2) wi #[.string x1, .string x2] (e := 57) 1 (Nat.le_refl wi.heap.size) (by decide) rfl)
            have F1 := hide (World.grownBy_alloc wi (.cells #[.string x1, .string x2] 57) none)
            have G1 := hide ((Below.refl wi.heap.size wi).alloc (Nat.le_refl _) (.cells #[.string x1, .string x2] 57))
            have hrc := (Reads.of_own hO2).cut (cap := c2) (k := j) hj hnc
            have HRC : Hid (∀ V, Below wi.heap.size wi V → Reads V wi.heap.size 2 (if c2 = j then A2 else A2.map (·.add (j * 2))) (k - j) ((S.flatMap lc).drop (j * 2))) := fun V hV => hrc.below hV
            have HD := hide (own_head hO2 hj)
            have HB2 := hide hB2
            have HGj := hide (show ∀ x, (Value.slice A2 j c2).ownBlock = some x → x < wo.heap.size from fun x e => HG.out x (by rw [← e]; cases A2 <;> rfl))
            clear hrc hO2 hB2 hK2
            go_region_held3 (fun w' => w'.cell? ⟨wo.heap.size, 0, none⟩ = some (.string x1) ∧ w'.cell? ⟨wo.heap.size, 1, none⟩ = some (.string x2)) (go_keep)
              (first
                | ((refine step_append_any _ (by rfl) (.tmp 34) (.tmp 37) _ (by rfl) wi.heap.size 57 i0 _ 2 32 Tryd.underlying48 hi hz0 hz1 hz2 rfl (by omega) _ 1 _ (by rfl) (by exact E1.out) wi.heap.size _ (k - j) _ _ (by rfl) (by have h := HRC.out _ G1.out; exact h) (lc_one_drop _ _) (by unfold maxLen; omega) (by omega) (by first | omega | (simp; done) | (simp; omega)) ?_
                    intro v6 w6 hown6 hg6 _
                    have hg6' : World.grownBy (wi.alloc (.cells #[.string x1, .string x2] 57)) w6 (some wi.heap.size) := grown_same hg6 rfl rfl rfl rfl
                    have hb6 := G1.out.grown hg6' (by first | omega | (simp; done) | (simp; omega)) (fun x hx => by have := Option.some.inj hx; omega)
                    have hs6 := hb6.size
                    have k0 := (hb6.cell (p := ⟨wo.heap.size, 0, none⟩) hwl).trans b0
                    have k1 := (hb6.cell (p := ⟨wo.heap.size, 1, none⟩) hwl).trans b1
                    have hd6 := own_below HD.out hb6 (own_block_lt HD.out)
                    obtain ⟨A6, c6, rfl, _, _⟩ := own_form hown6
                    clear hg6 hg6'))
                | ((refine step_append_any _ (by rfl) (.tmp 32) (.tmp 38) _ (by rfl) w.heap.size 57 i0 _ 2 32 Tryd.underlying48 hi hz0 hz1 hz2 rfl (by omega) _ j _ (by rfl) (by exact hd6) w6.heap.size A6 (1 + (k - j)) c6 _ (by rfl) (by exact Reads.of_own hown6) (app_one _ _ _ _) (by unfold maxLen; omega) (by omega) (by first | omega | (simp; done) | (simp; omega)) ?_
                    intro v7 w7 hown7 hg7 _
                    have hg7' : World.grownBy w6 w7 (Value.slice A2 j c2).ownBlock := grown_same hg7 rfl rfl rfl rfl
                    have k0' := (World.cell?_of_block (hg7'.block wo.heap.size (by omega) (fun e => Nat.lt_irrefl _ (HGj.out _ e.symm)))).trans k0
                    have k1' := (World.cell?_of_block (hg7'.block wo.heap.size (by omega) (fun e => Nat.lt_irrefl _ (HGj.out _ e.symm)))).trans k1
                    have hb7 := below_own (HB2.out.trans (hb6.mono hzw)) hd6 hg7' (Nat.le_refl _) (by omega)
                    clear hg7 hg7')))
            have hown8 : w7.ownsRow w.heap.size 57 2 v7 (k + 1) ((Srt.srt (L.take (k + 1))).flatMap lc) := by
              rw [Srt.srt_take HX.out, HSe.out, ← put_cells S (x1, x2) k j HS.out HP.out, show k + 1 = j + (1 + (k - j)) by omega]
              exact hown7
            clear hown7 hown6 hd6 k0 k1 k0' k1' b0 b1
            go_wp2_with fail
            go_roundw
            case rel => exact ⟨k + 1, by omega, by go_num, hown8, hb7⟩
            case measure => simp [intOf]; omega
          case inr =>
            obtain ⟨i, rfl⟩ : ∃ i, j = i + 1 := ⟨j - 1, by omega⟩
            have hy : S[i]? = some (S[i]'(by have := HS.out; omega)) := List.getElem?_eq_getElem _
            generalize (S[i]'(by have := HS.out; omega)) = y at hy
            have hl2 : Srt.lt (x1, x2) y = false := by
              cases hc : Srt.lt (x1, x2) y with
              | false => rfl
              | true => exact absurd ⟨hj0, by rw [Nat.add_sub_cancel, hy]; simpa using hc⟩ hgo
            obtain ⟨adg, hA2, _, hcg⟩ := (Reads.of_own HO.out).2 (by omega)
            subst hA2
            have hy2 := hcg _ _ (flat_get S i y hy).1
            have hlt' : Op.bytesLess x1.toList y.1.toList = false := hl2
            clear hgo hl2 hcg hy
            have j0 : (0 : Int) ≤ (i : Int) := by omega
            have j1 : (i : Int) < (k : Int) := by omega
            have j2 : (0 : Int) < (i : Int) + 1 := by omega
            have q2 : IntKind.i64.wrap (i : Int) = i := IntWalk.i64_in _ (by omega)
            have q3 : IntKind.i64.wrap ((i : Int) + 1 - 1) = i := by rw [Int.add_sub_cancel]; exact q2
            rw [show ((i + 1 : Nat) : Int) = (i : Int) + 1 from rfl]
            go_wp2_with fail
            go_quiet (fail)
            clear q2 q3 j0 j1 j2 hlt' hy2
            rw [show (i : Int) + 1 = ((i + 1 : Nat) : Int) from rfl]
            generalize i + 1 = j at hj Hp HP ⊢
            generalize some adg = A2 at HO HG ⊢
            go_wp2_with fail
            have hO2 : ((W.drewN q).drewN nq).ownsRow w.heap.size 57 2 (.slice A2 k c2) k (S.flatMap lc) := HO.out
            have hB2 : Below w.heap.size w ((W.drewN q).drewN nq) := below_drewN (below_drewN HB.out q) nq
            have hK2 : Blk ((W.drewN q).drewN nq) wo.heap.size 57 #[.string x1, .string x2] := HBK.out
            have hzw : w.heap.size ≤ ((W.drewN q).drewN nq).heap.size := hB2.size
            generalize (W.drewN q).drewN nq = wi at hO2 hB2 hK2 hzw ⊢
            clear a0 a1
            have b0 := hK2.cell 0
            have b1 := hK2.cell 1
            simp only [List.getElem?_toArray, List.getElem?_cons_zero, List.getElem?_cons_succ] at b0 b1
            have hwl := hK2.lt
            have q0 : (j : Int) ≤ (k : Int) := by omega
            have q1 : (j : Int) ≤ (c2 : Int) := by omega
            have E1 := hide (World.ownsRow_lit (size := 2) wi #[.string x1, .string x2] (e := 57) 1 (Nat.le_refl wi.heap.size) (by decide) rfl)
            have F1 := hide (World.grownBy_alloc wi (.cells #[.string x1, .string x2] 57) none)
            have G1 := hide ((Below.refl wi.heap.size wi).alloc (Nat.le_refl _) (.cells #[.string x1, .string x2] 57))
            have hrc := (Reads.of_own hO2).cut (cap := c2) (k := j) hj hnc
            have HRC : Hid (∀ V, Below wi.heap.size wi V → Reads V wi.heap.size 2 (if c2 = j then A2 else A2.map (·.add (j * 2))) (k - j) ((S.flatMap lc).drop (j * 2))) := fun V hV => hrc.below hV
            have HD := hide (own_head hO2 hj)
            have HB2 := hide hB2
            have HGj := hide (show ∀ x, (Value.slice A2 j c2).ownBlock = some x → x < wo.heap.size from fun x e => HG.out x (by rw [← e]; cases A2 <;> rfl))
            clear hrc hO2 hB2 hK2
            go_region_held3 (fun w' => w'.cell? ⟨wo.heap.size, 0, none⟩ = some (.string x1) ∧ w'.cell? ⟨wo.heap.size, 1, none⟩ = some (.string x2)) (go_keep)
              (first
                | ((refine step_append_any _ (by rfl) (.tmp 34) (.tmp 37) _ (by rfl) wi.heap.size 57 i0 _ 2 32 Tryd.underlying48 hi hz0 hz1 hz2 rfl (by omega) _ 1 _ (by rfl) (by exact E1.out) wi.heap.size _ (k - j) _ _ (by rfl) (by have h := HRC.out _ G1.out; exact h) (lc_one_drop _ _) (by unfold maxLen; omega) (by omega) (by first | omega | (simp; done) | (simp; omega)) ?_
                    intro v6 w6 hown6 hg6 _
                    have hg6' : World.grownBy (wi.alloc (.cells #[.string x1, .string x2] 57)) w6 (some wi.heap.size) := grown_same hg6 rfl rfl rfl rfl
                    have hb6 := G1.out.grown hg6' (by first | omega | (simp; done) | (simp; omega)) (fun x hx => by have := Option.some.inj hx; omega)
                    have hs6 := hb6.size
                    have k0 := (hb6.cell (p := ⟨wo.heap.size, 0, none⟩) hwl).trans b0
                    have k1 := (hb6.cell (p := ⟨wo.heap.size, 1, none⟩) hwl).trans b1
                    have hd6 := own_below HD.out hb6 (own_block_lt HD.out)
                    obtain ⟨A6, c6, rfl, _, _⟩ := own_form hown6
                    clear hg6 hg6'))
                | ((refine step_append_any _ (by rfl) (.tmp 32) (.tmp 38) _ (by rfl) w.heap.size 57 i0 _ 2 32 Tryd.underlying48 hi hz0 hz1 hz2 rfl (by omega) _ j _ (by rfl) (by exact hd6) w6.heap.size A6 (1 + (k - j)) c6 _ (by rfl) (by exact Reads.of_own hown6) (app_one _ _ _ _) (by unfold maxLen; omega) (by omega) (by first | omega | (simp; done) | (simp; omega)) ?_
                    intro v7 w7 hown7 hg7 _
                    have hg7' : World.grownBy w6 w7 (Value.slice A2 j c2).ownBlock := grown_same hg7 rfl rfl rfl rfl
                    have k0' := (World.cell?_of_block (hg7'.block wo.heap.size (by omega) (fun e => Nat.lt_irrefl _ (HGj.out _ e.symm)))).trans k0
                    have k1' := (World.cell?_of_block (hg7'.block wo.heap.size (by omega) (fun e => Nat.lt_irrefl _ (HGj.out _ e.symm)))).trans k1
                    have hb7 := below_own (HB2.out.trans (hb6.mono hzw)) hd6 hg7' (Nat.le_refl _) (by omega)
                    clear hg7 hg7')))
            have hown8 : w7.ownsRow w.heap.size 57 2 v7 (k + 1) ((Srt.srt (L.take (k + 1))).flatMap lc) := by
              rw [Srt.srt_take HX.out, HSe.out, ← put_cells S (x1, x2) k j HS.out HP.out, show k + 1 = j + (1 + (k - j)) by omega]
              exact hown7
            clear hown7 hown6 hd6 k0 k1 k0' k1' b0 b1
            go_wp2_with fail
            go_roundw
            case rel => exact ⟨k + 1, by omega, by go_num, hown8, hb7⟩
            case measure => simp [intOf]; omega
    · obtain rfl : k = n := by omega
      go_wp2
      go_ret
      have := Hl.out
      rw [List.take_of_length_le (by omega)] at hown
      exact ⟨_, rfl, hown, hb⟩
end Go.Proofs.YtjgbadopladmdaaDoor
