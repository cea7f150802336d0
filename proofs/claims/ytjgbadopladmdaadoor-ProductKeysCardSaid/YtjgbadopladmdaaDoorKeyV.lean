/- The walk of product.Key. -/
import Derived.Test.YtjgbadopladmdaaDoorKeyW
namespace Go.Proofs.YtjgbadopladmdaaDoor
open Go.RowKit
open Rel (Lk)

theorem info9 : (Tryd.prog.info? 9).map (fun i => (i.zero, i.size, i.bytes)) = some (some (.string ⟨#[]⟩), 1, 16) := by kernel_rfl
theorem keyW_next (cd br : ByteArray) {M : List Lk} {k : Nat} {r : Lk} (h : M[k]? = some r) : (keyW cd br (M.take k)).map Value.string ++ [.string (r.1 ++ (⟨#[61]⟩ : ByteArray) ++ r.2)] = (keyW cd br (M.take (k + 1))).map Value.string := by
  unfold keyW
  rw [Srt.take_snoc' h]
  simp [attS]
theorem RowL.grown {w w' : World} {base n : Nat} {A : Option Addr} {L : List Lk} (h : RowL w base A n L) {row : Option Nat} (hg : w.grownBy w' row) (hne : ∀ b, A = some ⟨b, 0, none⟩ → RowB w b L → some b ≠ row) : RowL w' base A n L :=
  ⟨h.len, fun hn => let ⟨b, e, hge, hr⟩ := h.at_ hn; ⟨b, e, hge, hr.grown hg (hne b e hr)⟩⟩
theorem own_row_ne {w : World} {base size n b : Nat} {e : TypeId} {v : Value} {xs : List Value} {L : List Lk} (h : w.ownsRow base e size v n xs) (hr : RowB w b L) (hne : e ≠ 57) : some b ≠ v.ownBlock := fun e => by
  obtain ⟨cs, hc⟩ := hr.ty
  exact own_blk_ne h hc hne e.symm

theorem field_atts (a0 a1 a2 : ByteArray) (a3 a4 a5 : Int) (A : Option Addr) (n c : Nat) (w : World) :
    (Instr.field 50 (.agg #[.string a0, .string a1, .string a2, .int .i64 a3, .int .i64 a4, .int .i64 a5, .slice A n c]) 4).run Tryd.prog w = .ok (.slice A n c) w := by kernel_rfl

set_option maxHeartbeats 4000000 in
set_option maxRecDepth 100000 in
theorem key_any (p : Pr) (A : Option Addr) (n c B : Nat) (L : List Lk) (w : World) (h : Recs lc 2 w B A n L) (hB : B ≤ w.heap.size) (hn : n ≤ 19) (hcd : p.cd.size ≤ 1000) (hbr : p.br.size ≤ 1000) (hss : ∀ r ∈ L, r.1.size ≤ 1000 ∧ r.2.size ≤ 1000) :
    Calls Tryd.prog 36 #[.agg (pv p (.slice A n c))] w fun e w' => e = .returned (.string (keyS p.cd p.br (Srt.srt L))) ∧ Below w.heap.size w w' := by
  obtain ⟨i0, hi, hz0, hz1, hz2⟩ := info_parts info9
  obtain ⟨id, cd, br, d, m, am⟩ := p
  simp only at hcd hbr
  have hb0 := (Below.refl w.heap.size w).alloc (Nat.le_refl _) (.cells #[.string id, .string cd, .string br, .int .i64 d, .int .i64 m, .int .i64 am, .slice A n c] 50)
  have hb1 := hb0.alloc (by simp) (.cells #[.string cd, .string br] 9)
  have hx := Blk.new w 50 #[.string id, .string cd, .string br, .int .i64 d, .int .i64 m, .int .i64 am, .slice A n c]
  have hx1 := hx.alloc (.cells #[.string cd, .string br] 9)
  have hown := World.ownsRow_lit (size := 1) (base := w.heap.size) (w.alloc (.cells #[.string id, .string cd, .string br, .int .i64 d, .int .i64 m, .int .i64 am, .slice A n c] 50)) #[.string cd, .string br] (e := 9) 2 (by simp) (by decide) rfl
  rw [World.size_alloc] at hown
  have hcall := normalize_any ⟨id, cd, br, d, m, am⟩ A n c B L ((w.alloc (.cells #[.string id, .string cd, .string br, .int .i64 d, .int .i64 m, .int .i64 am, .slice A n c] 50)).alloc (.cells #[.string cd, .string br] 9)) (h.reads.below (hb1.mono hB)) h.len (by simp; omega) hn
  have hlen : (Srt.srt L).length = n := by rw [Srt.srt_len]; exact h.len.symm
  have hM : ∀ r ∈ Srt.srt L, r.1.size ≤ 1000 ∧ r.2.size ≤ 1000 := fun r hr => hss r (Srt.mem_srt.1 hr)
  generalize Srt.srt L = M at hcall hlen hM ⊢
  simp only [pv] at hcall ⊢
  have x0 := hx1.cell 0
  have x1 := hx1.cell 1
  have x2 := hx1.cell 2
  have x3 := hx1.cell 3
  have x4 := hx1.cell 4
  have x5 := hx1.cell 5
  have x6 := hx1.cell 6
  simp only [List.getElem?_toArray, List.getElem?_cons_zero, List.getElem?_cons_succ] at x0 x1 x2 x3 x4 x5 x6
  have HC := hide hcall
  have HL := hide hlen
  have HM := hide hM
  have HO := hide hown
  have HB := hide hb1
  clear hcall hlen hM hown hb1 hb0 hx hx1 hss h
  go_enter Tryd.func36, Tryd.ntmps36
  go_wp2_with fail
  with_reducible refine HC.out.mono ?_
  rintro e w2 ⟨A1, c1, rfl, hrow, hnc1, hB2⟩
  simp only [pv]
  have hown2 := own_below HO.out hB2 (own_block_lt HO.out)
  have hb2 := HB.out.trans (hB2.mono HB.out.size)
  clear hB2
  have hfld := field_atts id cd br d m am A1 n c1
  go_wp2
  clear hfld
  go_loopw [3, 15] (fun v i wr => ∃ k : Nat, k ≤ n ∧ i = .int .i64 k ∧ wr.ownsRow w.heap.size 9 1 v (k + 2) ((keyW cd br (M.take k)).map Value.string) ∧ RowL wr w.heap.size A1 n M ∧ Below w.heap.size w wr) (fun _ i _ => n - (intOf i).toNat)
  case atStart => exact ⟨0, Nat.zero_le _, rfl, hown2, hrow.base_ HB.out.size, hb2⟩
  case round =>
    obtain ⟨k, hk, rfl, hown, hrow, hb⟩ := hrel
    have hz := hb.size
    by_cases hlt : k < n
    · obtain ⟨ad, x, hA, hab, hX, c0, cj⟩ := (hrow.recs (by omega)).at_ lc_len (by omega) hlt
      subst hA
      have c1 := cj 1 (by omega) (by omega)
      have hs := HM.out x (List.mem_of_getElem? hX)
      have hkn := keyW_next cd br hX
      obtain ⟨x1, x2⟩ := x
      simp only [lc, List.getElem?_cons_zero, List.getElem?_cons_succ] at c0 c1 hs
      have HKN := hide hkn
      clear cj hX hkn
      have g1 : x1.size ≤ 9223372036854775806 := by omega
      have g2 : x1.size + 1 + x2.size ≤ 9223372036854775807 := by omega
      clear hs
      have hownA := hown.alloc (.cells #[.string x1, .string x2] 57)
      have hrowA := hrow.alloc (.cells #[.string x1, .string x2] 57)
      have hbA := hb.alloc hz (.cells #[.string x1, .string x2] 57)
      have HOA := hide hownA
      have HRA := hide hrowA
      have HBA := hide hbA
      clear hownA hrowA hbA hown hrow hb
      go_wp2_with (at_builtin
                   refine wpList_append_elem' (wr.alloc (.cells #[.string x1, .string x2] 57)) (wr.heap.size + 1) (by simp) rfl _ _ 62 rfl w.heap.size 9 i0 _ 1 16 Tryd.underlying62 hi hz0 hz1 hz2 rfl (by omega) (by omega) _ (k + 2) _ rfl HOA.out #[.string (x1 ++ (⟨#[61]⟩ : ByteArray) ++ x2)] rfl rfl rfl (by simp [Value.oneCell']) (by omega) (by simp; omega) ?_
                   intro v5 w5 hown5 hg5 _
                   have hb5 := below_own HBA.out HOA.out hg5 (Nat.le_refl _) (by simp; omega)
                   have hrow5 := HRA.out.grown hg5 (fun b _ hr => own_row_ne HOA.out hr (by decide))
                   have hown6 : w5.ownsRow w.heap.size 9 1 v5 (k + 2 + 1) ((keyW cd br (M.take (k + 1))).map Value.string) := by rw [← HKN.out]; exact hown5
                   clear hown5 hg5)
      go_roundw
      case rel => exact ⟨k + 1, by omega, by go_num, by rw [show k + 1 + 2 = k + 2 + 1 by omega]; exact hown6, hrow5, hb5⟩
      case measure => simp [intOf]; omega
    · obtain rfl : k = n := by omega
      rw [List.take_of_length_le (by have := HL.out; omega)] at hown
      have hl : (keyW cd br M).length = k + 2 := by have := HL.out; simp [keyW]; omega
      obtain ⟨A5, c5, hv, hnc5, hcm5⟩ := own_form hown
      obtain ⟨g, cap, hv2, hge, hgl⟩ := hown.form (by omega)
      rw [hv2] at hv
      obtain ⟨rfl, rfl⟩ : A5 = some ⟨g, 0, none⟩ ∧ c5 = cap := by injection hv with h1 h2 h3; exact ⟨h1.symm, h3.symm⟩
      subst hv2
      have hlen := keyL_len cd br hcd hbr M HM.out
      have hML := HL.out
      have hj := Tryd.strings_Join g 0 c5 (keyW cd br M) ⟨#[124]⟩ wr (fun j x hx => by
        have hc := hown.cells (g := g) rfl j (.string x) (by rw [List.getElem?_map, hx]; rfl)
        have ha : (⟨g, 0, none⟩ : Addr).add j = ⟨g, j, none⟩ := by unfold Addr.add; split <;> simp_all
        rw [ha] at hc
        rw [Nat.zero_add]; exact hc) hgl (by omega) (by omega) (by
        show (Lib.join ((keyW cd br M).map (·.data.toList)) [124]).length ≤ _
        rw [key_join]; omega)
      rw [hl, show (⟨#[124]⟩ : ByteArray).data.toList = [124] from rfl, key_join] at hj
      have HJ := hide hj
      have HBR := hide hb
      clear hj hl hlen hML hown hrow hb hv
      go_wp2_with fail
      with_reducible refine HJ.out.mono ?_
      rintro e w7 ⟨rfl, hB7⟩
      go_wp2_with fail
      go_ret
      exact ⟨rfl, HBR.out.trans (hB7.mono hz)⟩
end Go.Proofs.YtjgbadopladmdaaDoor
