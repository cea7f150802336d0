/- The walk of raw: at most ten relaunches with short strings. -/
import Derived.Test.YtjgbadopladmdaaDoorChainW
namespace Go.Proofs.YtjgbadopladmdaaDoor
open Go.RowKit Rel

/-- relaunches as the caller gave them: strings of any length -/
def MadeW (w : World) (e : Ending) (w' : World) : Prop :=
  ∃ (v : Value) (L : List Lk), e = .returned v ∧ w'.ownsRow w.heap.size 74 2 v L.length (L.flatMap lc) ∧ L.length ≤ 10 ∧ (∀ r ∈ L, r.1.size ≤ 20 ∧ r.2.size ≤ 20) ∧ Below w.heap.size w w'

set_option maxHeartbeats 4000000 in
set_option maxRecDepth 100000 in
theorem raw_any (A : Option Addr) (n c B : Nat) (M : List Lk) (w : World) (h : Reads w B 2 A n (M.flatMap lc)) (hl : n = M.length) (hB : B ≤ w.heap.size) (hnc : n ≤ c) :
    Calls Tryd.prog 21 #[.slice A n c] w (MadeW w) := by
  obtain ⟨i0, hi, hz0, hz1, hz2⟩ := info_parts info74
  have hmin : min (n : Int) 10 = ((min n 10 : Nat) : Int) := by omega
  have hq1 : min n 10 ≤ n := Nat.min_le_left _ _
  have hq2 : min n 10 ≤ 10 := Nat.min_le_right _ _
  generalize min n 10 = q at hmin hq1 hq2
  have hqc : (q : Int) ≤ (c : Int) := by omega
  have hr0 : Recs lc 2 w B A q (M.take q) := by
    refine ⟨⟨by rw [flat_len lc_len, List.length_take]; omega, fun h0 => ?_⟩, by rw [List.length_take]; omega, by omega⟩
    obtain ⟨ad, e, hb, hc⟩ := h.2 (by omega)
    refine ⟨ad, e, hb, fun j u hu => hc j u ?_⟩
    rw [← List.take_append_drop q M, List.flatMap_append, List.getElem?_append_left ((List.getElem?_eq_some_iff.1 hu).1)]
    exact hu
  have hl' : q = (M.take q).length := by rw [List.length_take]; omega
  generalize M.take q = L at hr0 hl'
  clear hl h
  have Hl' := hide hl'
  clear hl'
  go_enter Tryd.func21, Tryd.ntmps21
  go_wp2
  go_loopw [3, 12] (fun v i wr => ∃ (k : Nat) (N : List Lk), k ≤ q ∧ i = .int .i64 k ∧ Hid (N.length = k) ∧ Hid (∀ r ∈ N, r.1.size ≤ 20 ∧ r.2.size ≤ 20) ∧ wr.ownsRow w.heap.size 74 2 v k (N.flatMap lc) ∧ Below w.heap.size w wr) (fun _ i _ => q - (intOf i).toNat)
  case atStart => exact ⟨0, [], Nat.zero_le _, rfl, rfl, (show ∀ r ∈ ([] : List Lk), r.1.size ≤ 20 ∧ r.2.size ≤ 20 from fun r hr => by cases hr), ownsRow_nil' _ _ _ _, Below.refl _ _⟩
  case round =>
    obtain ⟨k, N, hk, rfl, Hl, Hs, hown, hb⟩ := hrel
    have hz := hb.size
    by_cases hlt : k < q
    · obtain ⟨ad, r, rfl, hab, hR, c0, cj⟩ := (hr0.below (hb.mono hB)).at_ lc_len (by omega) hlt
      have c1 := cj 1 (by omega) (by omega)
      obtain ⟨ro, rp⟩ := r
      simp only [lc, List.getElem?_cons_zero, List.getElem?_cons_succ] at c0 c1
      clear cj
      have m1 : min (ro.size : Int) 20 = ((min ro.size 20 : Nat) : Int) := by omega
      have m2 : min (rp.size : Int) 20 = ((min rp.size 20 : Nat) : Int) := by omega
      have x1 : min ro.size 20 ≤ ro.size := Nat.min_le_left _ _
      have x2 : min rp.size 20 ≤ rp.size := Nat.min_le_left _ _
      have y1 : min ro.size 20 ≤ 20 := Nat.min_le_right _ _
      have y2 : min rp.size 20 ≤ 20 := Nat.min_le_right _ _
      generalize min ro.size 20 = s1 at m1 x1 y1
      generalize min rp.size 20 = s2 at m2 x2 y2
      have z1 : (s1 : Int) ≤ (ro.size : Int) := by omega
      have z2 : (s2 : Int) ≤ (rp.size : Int) := by omega
      go_upto_region 5 with (fail)
      have hne : some wr.heap.size ≠ u3.ownBlock := fun e => by have := own_block_lt hown _ e.symm; omega
      have Hown := hide (hown.alloc (.cells #[.string ro, .string rp] 74))
      have Hb := hide (hb.alloc hz (.cells #[.string ro, .string rp] 74))
      have k0 : (wr.alloc (.cells #[.string ro, .string rp] 74)).cell? ⟨wr.heap.size, 0, none⟩ = some (.string ro) := World.cell?_alloc_mark wr _ 74 (0, 0) 0
      have k1 : (wr.alloc (.cells #[.string ro, .string rp] 74)).cell? ⟨wr.heap.size, 1, none⟩ = some (.string rp) := World.cell?_alloc_mark wr _ 74 (0, 0) 1
      have hsz1 : wr.heap.size < (wr.alloc (.cells #[.string ro, .string rp] 74)).heap.size := by simp
      have hz1' : w.heap.size ≤ (wr.alloc (.cells #[.string ro, .string rp] 74)).heap.size := by simp; omega
      generalize wr.alloc (.cells #[.string ro, .string rp] 74) = wx at Hown Hb k0 k1 hsz1 hz1' ⊢
      clear hown hb c0 c1
      go_region_held3 (fun w' => w'.cell? ⟨wr.heap.size, 0, none⟩ = some (.string ro) ∧ w'.cell? ⟨wr.heap.size, 1, none⟩ = some (.string rp)) (go_keep)
        ((refine step_append_any _ (by rfl) (.tmp 16) (.tmp 32) _ (by rfl) w.heap.size 74 i0 _ 2 32 Tryd.underlying30 hi hz0 hz1 hz2 rfl (by omega) _ k _ (by rfl) (by exact Hown.out.alloc _) (wx.heap.size + 1) (some ⟨wx.heap.size, 0, none⟩) 1 1 _ (by rfl) (by exact reads_blk (Blk.new wx 74 _) (Nat.lt_succ_self _) 2 rfl) (by simp [Value.oneCell']) (by unfold maxLen; omega) (by omega) (by first | omega | (simp; done) | (simp; omega)) ?_
          intro v7 w7 hown7 hg7 _
          have hg7' : World.grownBy (wx.alloc (.cells #[.string (ro.extract 0 s1), .string (rp.extract 0 s2)] 74)) w7 u3.ownBlock := grown_same hg7 rfl rfl rfl rfl
          have hg8' := (World.grownBy_alloc wx (.cells #[.string (ro.extract 0 s1), .string (rp.extract 0 s2)] 74) u3.ownBlock).trans hg7'
          have hb7 := below_own (Hb.out.alloc hz1' (.cells #[.string (ro.extract 0 s1), .string (rp.extract 0 s2)] 74)) (Hown.out.alloc _) hg7' (Nat.le_refl _) (by simp; omega)
          have x0 : w7.cell? ⟨wr.heap.size, 0, none⟩ = wx.cell? ⟨wr.heap.size, 0, none⟩ := World.cell?_of_block (hg8'.block wr.heap.size hsz1 hne)
          have k0' := x0.trans k0
          have x1 : w7.cell? ⟨wr.heap.size, 1, none⟩ = wx.cell? ⟨wr.heap.size, 1, none⟩ := World.cell?_of_block (hg8'.block wr.heap.size hsz1 hne)
          have k1' := x1.trans k1
          clear hg7 hg7' hg8' x0 x1))
      all_goals
        clear k0 k1 k0' k1'
        have hl9 : Hid ((N ++ [((ro.extract 0 s1, rp.extract 0 s2) : Lk)]).length = k + 1) := by show (N ++ [_]).length = k + 1; rw [List.length_append, Hl.out]; rfl
        have hs9 : Hid (∀ r ∈ N ++ [((ro.extract 0 s1, rp.extract 0 s2) : Lk)], r.1.size ≤ 20 ∧ r.2.size ≤ 20) := fun r hr => by
          rcases List.mem_append.1 hr with h | h
          · exact Hs.out r h
          · obtain rfl := List.mem_singleton.1 h
            exact ⟨by show (ro.extract 0 s1).size ≤ 20; rw [ByteArray.size_extract]; omega, by show (rp.extract 0 s2).size ≤ 20; rw [ByteArray.size_extract]; omega⟩
        go_wp2_with fail
        go_roundw
        case rel => exact ⟨k + 1, N ++ [((ro.extract 0 s1, rp.extract 0 s2) : Lk)], by omega, by go_num, hl9, hs9, by rw [List.flatMap_append]; exact hown7, hb7⟩
        case measure => simp [intOf]; omega
    · obtain rfl : k = q := by omega
      go_wp2
      go_ret
      exact ⟨_, N, rfl, by rw [Hl.out]; exact hown, by have := Hl.out; omega, Hs.out, hb⟩
end Go.Proofs.YtjgbadopladmdaaDoor
