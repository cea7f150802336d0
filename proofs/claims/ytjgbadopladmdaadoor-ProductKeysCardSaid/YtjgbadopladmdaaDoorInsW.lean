/- The walk of the insertion sort of attributes. -/
import Derived.Test.YtjgbadopladmdaaDoorSortW
import Derived.IntWalk
namespace Go.Proofs.YtjgbadopladmdaaDoor
open Go.RowKit
open Rel (Lk)

def Sorted (w : World) (b : Nat) (L : List Lk) (e : Ending) (w' : World) : Prop := e = .returned (.tuple #[]) ∧ RowB w' b (Srt.srt L) ∧ w.grownBy w' (some b)

theorem ins_next {L S : List Lk} {k : Nat} {x : Lk} (hS : Srt.srt (L.take k) = S) (hx : L[k]? = some x) {p : Nat} (hp : p = Srt.posn x S S.length) :
    Srt.mid S x p (L.drop (k + 1)) = Srt.srt (L.take (k + 1)) ++ L.drop (k + 1) := by
  rw [hp, Srt.mid_end, Srt.srt_take hx, hS]

theorem cell_drew {w W : World} {b i : Nat} {u : Value} (h : Below w.drew.heap.size w.drew W) (hb : b < w.heap.size) (hc : w.cell? ⟨b, i, none⟩ = some u) : W.cell? ⟨b, i, none⟩ = some u :=
  (h.cell (p := ⟨b, i, none⟩) hb).trans hc

theorem grown_drew {w0 w W : World} {g : Nat} (hg : w0.grownBy w (some g)) (h : Below w.drew.heap.size w.drew W) : w0.grownBy W (some g) :=
  hg.trans (have h2 := only_of_below (a := w.drew) h (some g); ⟨h2.os, h2.tape, h2.output, h2.size, h2.block⟩)
theorem grown_below' {w w' : World} {b C : Nat} (h : w.grownBy w' (some b)) (hC : C ≤ b) (hz : C ≤ w.heap.size) : Below C w w' := (Below.refl C w).grown h hz (fun x hx => by cases hx; exact hC)
theorem row_swapped {W : World} {b j : Nat} {S T : List Lk} {x y : Lk} (h : RowB W b (Srt.mid S x (j + 1) T)) (hy : S[j]? = some y) :
    RowB ((((W.setCell ⟨b, (j + 1) * 2, none⟩ (.string y.1)).setCell ⟨b, (j + 1) * 2 + 1, none⟩ (.string y.2)).setCell ⟨b, j * 2, none⟩ (.string x.1)).setCell ⟨b, j * 2 + 1, none⟩ (.string x.2)) b (Srt.mid S x j T) := by
  obtain ⟨hj, _⟩ := List.getElem?_eq_some_iff.1 hy
  have hlen := Srt.mid_len S x (j + 1) T (by omega)
  have h1 := h.set_ (k := j + 1) (by omega) y
  have h2 := h1.set_ (k := j) (by simp; omega) x
  rw [List.set_comm _ _ (by omega), Srt.mid_swap S x y j T hy] at h2
  exact h2
theorem grown_set4 {w W : World} {b : Nat} (h : w.grownBy W (some b)) (i0 i1 i2 i3 : Nat) (u0 u1 u2 u3 : Value) :
    w.grownBy ((((W.setCell ⟨b, i0, none⟩ u0).setCell ⟨b, i1, none⟩ u1).setCell ⟨b, i2, none⟩ u2).setCell ⟨b, i3, none⟩ u3) (some b) :=
  only_setCell (only_setCell (only_setCell (only_setCell h (.inl rfl) _) (.inl rfl) _) (.inl rfl) _) (.inl rfl) _

set_option maxHeartbeats 4000000 in
set_option maxRecDepth 100000 in
theorem insort_any (b n c : Nat) (L : List Lk) (w : World) (h : RowB w b L) (hl : L.length = n) (hnc : n ≤ c) (hn : n ≤ 1000) (h1 : 1 ≤ n) :
    Calls Tryd.prog 91 #[.slice (some ⟨b, 0, none⟩) n c, .int .i64 0, .int .i64 n, .func (.func 55) #[] #[]] w (Sorted w b L) := by
  have hlt := h.lt
  have Hl := hide hl
  clear hl
  have hh := hide h
  clear h
  go_enter Tryd.func91, Tryd.ntmps91
  go_wp2
  go_loopw [8] (fun i wr => ∃ k : Nat, 1 ≤ k ∧ k ≤ n ∧ i = .int .i64 k ∧ RowB wr b (Srt.srt (L.take k) ++ L.drop k) ∧ w.grownBy wr (some b)) (fun i _ => n - (intOf i).toNat)
  case atStart =>
    have e : Srt.srt (L.take 1) ++ L.drop 1 = L := by
      have := Hl.out
      rcases L with _ | ⟨x, L⟩
      · simp at this; omega
      · rfl
    exact ⟨1, Nat.le_refl _, h1, rfl, by rw [e]; exact hh.out, World.grownBy.refl w _⟩
  case round =>
    obtain ⟨k, hk1, hk, rfl, hrow, hg⟩ := hrel
    by_cases hltk : k < n
    · obtain ⟨wo, rfl⟩ : ∃ wo : World, wo = wr := ⟨_, rfl⟩
      have hx : L[k]? = some (L[k]'(by have := Hl.out; omega)) := List.getElem?_eq_getElem _
      generalize (L[k]'(by have := Hl.out; omega)) = x at hx
      have hS : (Srt.srt (L.take k)).length = k := by rw [Srt.srt_len, List.length_take]; have := Hl.out; omega
      generalize hSe : Srt.srt (L.take k) = S at hrow hS
      have HX := hide hx
      have HS := hide hS
      have HSe := hide hSe
      clear hx hS hSe
      rw [Srt.mid_start L S k x HS.out HX.out] at hrow
      go_wp2
      go_loopw [9] (fun jv wi => ∃ j : Nat, j ≤ k ∧ jv = .int .i64 j ∧ RowB wi b (Srt.mid S x j (L.drop (k + 1))) ∧ Hid (Srt.posn x S j = Srt.posn x S S.length) ∧ w.grownBy wi (some b)) (fun jv _ => (intOf jv).toNat)
      case atStart => exact ⟨k, Nat.le_refl _, rfl, hrow, (show Srt.posn x S k = Srt.posn x S S.length by rw [HS.out]), hg⟩
      case round =>
        obtain ⟨j, hj, rfl, hrow2, Hp, hg2⟩ := hrel
        rcases j with _ | j
        · rw [show ((0 : Nat) : Int) = 0 from rfl]
          go_wp2_with fail
          go_quiet (fail)
          go_wp2_with fail
          go_roundw
          case rel => exact ⟨k + 1, by omega, by omega, by go_num, (ins_next HSe.out HX.out Hp.out) ▸ hrow2.drewN _, only_drewN hg2 _⟩
          case measure => simp [intOf]; omega
        · have hy : S[j]? = some (S[j]'(by have := HS.out; omega)) := List.getElem?_eq_getElem _
          generalize (S[j]'(by have := HS.out; omega)) = y at hy
          have cx := hrow2.cell (j + 1) x (Srt.mid_at S x (j + 1) _ (by have := HS.out; omega))
          have cy := hrow2.cell j y ((Srt.mid_before S x j _ (by have := HS.out; omega)).trans hy)
          obtain ⟨cx0, cx1⟩ := cx
          obtain ⟨cy0, cy1⟩ := cy
          have HY := hide hy
          clear hy
          have hlb := hrow2.lt
          have Hrow := hide hrow2
          clear hrow2
          have j0 : (0 : Int) ≤ (j : Int) := by omega
          have j1 : (j : Int) < (n : Int) := by omega
          have j2 : (j : Int) + 1 < (n : Int) := by omega
          rw [show ((j + 1 : Nat) : Int) = (j : Int) + 1 from rfl]
          have hcmp := fun W => cmp_any x y W
          have hlb' : ∀ i : Nat, (⟨b, i, none⟩ : Addr).block < wr.heap.size := fun _ => hlb
          have Hlb' := hide hlb'
          clear hlb'
          cases hlt2 : Srt.lt x y
          · rw [hlt2] at hcmp
            have HLT := hide hlt2
            have HC := hide hcmp
            clear hlt2 hcmp
            go_wp2_with fail
            have q0 : (0 : Int) ≤ (j : Int) + 1 := by omega
            have q1 : ((j : Int) + 1).toNat = j + 1 := by omega
            have q2 : IntKind.i64.wrap (j : Int) = j := IntWalk.i64_in _ (by omega)
            have q3 : IntKind.i64.wrap ((j : Int) + 1 - 1) = j := by rw [Int.add_sub_cancel]; exact q2
            go_region_held3 (fun w' => w'.cell? ⟨b, (j + 1) * 2, none⟩ = some (.string x.1) ∧ w'.cell? ⟨b, (j + 1) * 2 + 1, none⟩ = some (.string x.2) ∧ w'.cell? ⟨b, j * 2, none⟩ = some (.string y.1) ∧ w'.cell? ⟨b, j * 2 + 1, none⟩ = some (.string y.2)) (go_keep)
              ((go_at_call 55; refine (HC.out _).mono ?_; rintro e w1 ⟨z, rfl, hz, hB1⟩
                have z0 := cell_drew (by exact hB1) hlb cx0
                have z1 := cell_drew (by exact hB1) hlb cx1
                have z2 := cell_drew (by exact hB1) hlb cy0
                have z3 := cell_drew (by exact hB1) hlb cy1))
            go_wp2_with fail
            clear q0 q1 q2 q3
            go_roundw
            case rel => exact ⟨k + 1, by omega, by omega, by go_num, (ins_next HSe.out HX.out ((Srt.posn_stop HY.out HLT.out).symm.trans Hp.out)) ▸ Hrow.out.drew.below (by exact hB1), grown_drew hg2 (by exact hB1)⟩
            case measure => simp [intOf]; omega
          · rw [hlt2] at hcmp
            have HLT := hide hlt2
            have HC := hide hcmp
            clear hlt2 hcmp
            go_wp2_with fail
            have q0 : (0 : Int) ≤ (j : Int) + 1 := by omega
            have q1 : ((j : Int) + 1).toNat = j + 1 := by omega
            have q2 : IntKind.i64.wrap (j : Int) = j := IntWalk.i64_in _ (by omega)
            have q3 : IntKind.i64.wrap ((j : Int) + 1 - 1) = j := by rw [Int.add_sub_cancel]; exact q2
            go_region_held3 (fun w' => w'.cell? ⟨b, (j + 1) * 2, none⟩ = some (.string x.1) ∧ w'.cell? ⟨b, (j + 1) * 2 + 1, none⟩ = some (.string x.2) ∧ w'.cell? ⟨b, j * 2, none⟩ = some (.string y.1) ∧ w'.cell? ⟨b, j * 2 + 1, none⟩ = some (.string y.2)) (go_keep)
              ((go_at_call 55; refine (HC.out _).mono ?_; rintro e w1 ⟨z, rfl, hz, hB1⟩
                have z0 := cell_drew (by exact hB1) hlb cx0
                have z1 := cell_drew (by exact hB1) hlb cx1
                have z2 := cell_drew (by exact hB1) hlb cy0
                have z3 := cell_drew (by exact hB1) hlb cy1))
            have hrow3 := Hrow.out.drew.below (w' := w1) (by exact hB1)
            have hg3 := grown_drew hg2 (by exact hB1)
            have f0 := hrow3.free ((j + 1) * 2)
            have f1 := hrow3.free ((j + 1) * 2 + 1)
            have f2 := hrow3.free (j * 2)
            have f3 := hrow3.free (j * 2 + 1)
            have Hrow3 := hide hrow3
            clear hrow3
            go_wp2_with fail
            go_region
            all_goals
              clear q0 q1 q2 q3
              go_wp2_with fail
              go_roundw
              case rel => exact ⟨j, by omega, by go_num, (row_swapped Hrow3.out HY.out).drew, (show Srt.posn x S j = Srt.posn x S S.length from (Srt.posn_step HY.out HLT.out).symm.trans Hp.out), only_drew (grown_set4 hg3 _ _ _ _ _ _ _ _)⟩
              case measure => simp [intOf]
    · obtain rfl : k = n := by omega
      go_wp2_with fail
      have e : Srt.srt (L.take k) ++ L.drop k = Srt.srt L := by
        have := Hl.out
        rw [List.take_of_length_le (by omega), List.drop_of_length_le (by omega), List.append_nil]
      rw [e] at hrow
      go_end0
      exact ⟨rfl, hrow, hg⟩

set_option maxRecDepth 100000 in
theorem insort_none (A : Option Addr) (c : Nat) (w : World) : Calls Tryd.prog 91 #[.slice A 0 c, .int .i64 0, .int .i64 0, .func (.func 55) #[] #[]] w fun e w' => e = .returned (.tuple #[]) ∧ w = w' := by
  go_enter Tryd.func91, Tryd.ntmps91
  go_wp2
  refine wp_loop_rounds 1 ?_
  rw [rounds_succ]
  go_wp2_with fail
  go_end0
  exact ⟨rfl, rfl⟩

def SortedL (w : World) (base : Nat) (A : Option Addr) (n : Nat) (L : List Lk) (e : Ending) (w' : World) : Prop := e = .returned (.tuple #[]) ∧ RowL w' base A n (Srt.srt L) ∧ Below base w w'

/-- slices.stableCmpFunc of at most 19 -/
theorem stable_any (A : Option Addr) (n c base : Nat) (L : List Lk) (w : World) (h : RowL w base A n L) (hnc : n ≤ c) (hn : n ≤ 19) (hb : base ≤ w.heap.size) :
    Calls Tryd.prog 75 #[.slice A n c, .int .i64 n, .func (.func 55) #[] #[]] w (SortedL w base A n L) := by
  have hcall : Calls Tryd.prog 91 #[.slice A n c, .int .i64 0, .int .i64 n, .func (.func 55) #[] #[]] w (SortedL w base A n L) := by
    rcases Nat.eq_zero_or_pos n with h0 | h0
    · subst h0
      have hL : L = [] := List.eq_nil_of_length_eq_zero h.len
      subst hL
      exact (insort_none A c w).mono fun e w' ⟨he, hw⟩ => ⟨he, by subst hw; exact h, by subst hw; exact Below.refl _ _⟩
    · obtain ⟨b, rfl, hge, hr⟩ := h.at_ h0
      refine (insort_any b n c L w hr h.len hnc (by omega) h0).mono fun e w' ⟨he, hr', hg⟩ => ⟨he, ⟨by rw [Srt.srt_len, h.len], fun _ => ⟨b, rfl, hge, hr'⟩⟩, grown_below' hg hge hb⟩
  have HC := hide hcall
  clear hcall h
  go_enter Tryd.func75, Tryd.ntmps75
  go_wp2
  refine wp_loop_rounds 1 ?_
  rw [rounds_succ]
  go_wp2_with fail
  with_reducible refine HC.out.mono ?_
  rintro e w1 ⟨rfl, hr1, hB1⟩
  go_wp2_with fail
  refine wp_loop_rounds 1 ?_
  rw [rounds_succ]
  go_wp2_with fail
  go_end0
  exact ⟨rfl, hr1, hB1⟩
theorem sortst_any (A : Option Addr) (n c base : Nat) (L : List Lk) (w : World) (h : RowL w base A n L) (hnc : n ≤ c) (hn : n ≤ 19) (hb : base ≤ w.heap.size) :
    Calls Tryd.prog 54 #[.slice A n c, .func (.func 55) #[] #[]] w (SortedL w base A n L) := by
  have hcall := stable_any A n c base L w h hnc hn hb
  have HC := hide hcall
  clear hcall h
  go_enter Tryd.func54, Tryd.ntmps54
  go_wp2_with fail
  with_reducible refine HC.out.mono ?_
  rintro e w1 ⟨rfl, hr1, hB1⟩
  go_wp2_with fail
  go_end0
  exact ⟨rfl, hr1, hB1⟩
end Go.Proofs.YtjgbadopladmdaaDoor
