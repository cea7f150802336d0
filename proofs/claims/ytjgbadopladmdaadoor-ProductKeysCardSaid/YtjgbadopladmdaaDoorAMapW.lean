/- A set of attributes: a map from a struct of two strings to bool, as a function; the walk of product.set. -/
import Derived.Test.YtjgbadopladmdaaDoorRelW
import Derived.Test.YtjgbadopladmdaaDoorMapW
import Derived.Test.YtjgbadopladmdaaDoorKept
import Derived.Test.YtjgbadopladmdaaDoorSortW
import Derived.Test.YtjgbadopladmdaaDoorEachT
import Derived.Test.YtjgbadopladmdaaDoorChainW
import Derived.DeepKeys4
import Derived.Carry
namespace Go.Proofs.YtjgbadopladmdaaDoor
open Go.RowKit Go.Maps
open Rel (Lk)

/-- y stands in L -/
def isIn (L : List Lk) (y : Lk) : Bool := L.any fun x => decide (y = x)
theorem isIn_snoc (L : List Lk) (x y : Lk) : (decide (y = x) || isIn L y) = isIn (L ++ [x]) y := by
  simp [isIn, List.any_append, Bool.or_comm]

theorem lawA : Keyed Tryd.prog 57 := Keyed.of_law (deep_law_laid laidOut (m := 2) (by omega) (of_decide_eq_true (by kernel_rfl)) (by kernel_rfl) (by kernel_rfl))
theorem zeroB (w : World) : (zeroValue 4).run Tryd.prog w = .ok (.bool false) w := by kernel_rfl

theorem keyType57 : Tryd.prog.keyType 57 = true := by kernel_rfl
theorem types_some : ∃ m, Tryd.prog.types.size = m + 2 := ⟨Tryd.prog.types.size - 2, by kernel_rfl⟩
theorem cellsOf57 : Tryd.prog.cellsOf 57 = 2 := by kernel_rfl
theorem cellsOf9 : Tryd.prog.cellsOf 9 = 1 := by kernel_rfl

theorem keyA (r : Lk) (h1 : r.1.size ≤ maxLen) (h2 : r.2.size ≤ maxLen) : ∃ kl, keyOf Tryd.prog 57 (.agg #[.string r.1, .string r.2]) = some kl := by
  have hkt := keyType57
  have hc := cellsOf57
  have hc9 := cellsOf9
  obtain ⟨m, hm⟩ := types_some
  refine ⟨.string (keyBytes [.string r.1.data.toList, .string r.2.data.toList]), ?_⟩
  unfold keyOf
  simp only [Tryd.underlying57]
  rw [if_pos (by simp [hkt, Value.formed, Tryd.underlying57, hc]), hm]
  unfold Program.keyLits
  simp only [Tryd.underlying57, Value.cells]
  simp [hc, hc9, Program.keyLits, Tryd.underlying9, h1, h2]

/-- block b is a map of at most n entries that reads as f -/
def AMap (w : World) (b n : Nat) (f : Lk → Bool) : Prop :=
  ∃ D : DataW Unit, w.ownsMap Tryd.prog 57 (plainElem Tryd.prog 4) b n D ∧ ∀ (r : Lk) kl, keyOf Tryd.prog 57 (.agg #[.string r.1, .string r.2]) = some kl → D.atKey kl (.lit (.bool false)) = .lit (.bool (f r))

theorem AMap.made (w : World) : AMap (w.alloc (.map #[] 0)) w.heap.size 0 (fun _ => false) :=
  ⟨.map [], World.ownsMap_made _ _ _ _, fun _ _ _ => rfl⟩
theorem AMap.kept {w w' : World} {b n : Nat} {f : Lk → Bool} (h : AMap w b n f) {row : Option Nat} (hg : w.grownBy w' row) (hne : some b ≠ row) : AMap w' b n f := by
  obtain ⟨D, h1, h2⟩ := h
  exact ⟨D, h1.kept hg hne, h2⟩
theorem AMap.below {w w' : World} {b n B : Nat} {f : Lk → Bool} (h : AMap w b n f) (hb : Below B w w') (hlt : b < B) : AMap w' b n f := by
  obtain ⟨D, ⟨es, c, h0, h1, h2, h3⟩, h4⟩ := h
  exact ⟨D, ⟨es, c, (hb.block b hlt).trans h0, h1, h2, h3⟩, h4⟩
theorem AMap.drewN {w : World} {b n : Nat} {f : Lk → Bool} (h : AMap w b n f) (q : Nat) : AMap (w.drewN q) b n f := h
theorem AMap.alloc {w : World} {b n : Nat} {f : Lk → Bool} (h : AMap w b n f) (o : Obj) : AMap (w.alloc o) b n f := h.kept (World.grownBy_alloc w o none) (by simp)
theorem AMap.lt {w : World} {b n : Nat} {f : Lk → Bool} (h : AMap w b n f) : b < w.heap.size := by
  obtain ⟨D, h1, _⟩ := h
  exact h1.lt
theorem AMap.congr {w : World} {b n : Nat} {f g : Lk → Bool} (h : AMap w b n f) (e : ∀ s, f s = g s) : AMap w b n g := by
  obtain rfl : f = g := funext e
  exact h

theorem AMap.look {w : World} {b n : Nat} {f : Lk → Bool} (h : AMap w b n f) (r : Lk) (h1 : r.1.size ≤ maxLen) (h2 : r.2.size ≤ maxLen) :
    (Instr.lookup 92 (.map (some b)) (.agg #[.string r.1, .string r.2]) false).run Tryd.prog w = .ok (.bool (f r)) w := by
  obtain ⟨D, hown, hD⟩ := h
  obtain ⟨kl, hk⟩ := keyA r h1 h2
  obtain ⟨v, ps, hrun, hv⟩ := hown.lookup lawA Tryd.underlying92 (zeroB w) (plainElem_bool Tryd.underlying4 false) hk
  rw [hD r kl hk] at hv
  rw [hrun]
  simp only [plainElem, Tryd.underlying4] at hv
  cases v <;> simp at hv
  rename_i b
  rw [hv.1]

theorem AMap.put {w : World} {b n : Nat} {f : Lk → Bool} (h : AMap w b n f) (hn : n < maxLen) (r : Lk) (h1 : r.1.size ≤ maxLen) (h2 : r.2.size ≤ maxLen) :
    ∃ w', (Instr.mapUpdate 92 (.map (some b)) (.agg #[.string r.1, .string r.2]) (.bool true)).run Tryd.prog w = .ok () w' ∧ AMap w' b (n + 1) (fun y => decide (y = r) || f y) ∧ w.grownBy w' (some b) := by
  obtain ⟨D, hown, hD⟩ := h
  obtain ⟨kl, hk⟩ := keyA r h1 h2
  obtain ⟨w', hrun, h3, h4⟩ := hown.update lawA Tryd.underlying92 hn (val := .bool true) hk (plainElem_bool Tryd.underlying4 true)
  refine ⟨w', hrun, ⟨_, h3, fun y ky hy => ?_⟩, h4⟩
  have hM : IsMap D := hown.isMap
  by_cases e : y = r
  · subst e
    rw [hk] at hy
    obtain rfl := Option.some.inj hy
    rw [atKey_put_same hM (lawA.key hk)]
    simp
  · have hne : ky ≠ kl := fun h => e (by
      subst h
      have := lawA.inj hy hk
      obtain ⟨y1, y2⟩ := y
      obtain ⟨r1, r2⟩ := r
      simp at this
      simp [this])
    rw [atKey_put_other hne, hD y ky hy]
    simp [e]

set_option maxHeartbeats 4000000 in
set_option maxRecDepth 100000 in
theorem set_any (A : Option Addr) (n c B : Nat) (L : List Lk) (w : World) (h : Recs lc 2 w B A n L) (hB : B ≤ w.heap.size) (hn : n ≤ 1000) (hs : ∀ r ∈ L, r.1.size ≤ 1000 ∧ r.2.size ≤ 1000) :
    Calls Tryd.prog 62 #[.slice A n c] w fun e w' => ∃ b, e = .returned (.map (some b)) ∧ w.heap.size ≤ b ∧ AMap w' b n (isIn L) ∧ Below w.heap.size w w' := by
  have hlen := h.len
  have Hl := hide hlen
  clear hlen
  have hmm := @run_makeMap Tryd.prog
  go_enter Tryd.func62, Tryd.ntmps62
  go_wp2_with fail
  have hm0 := AMap.made w
  have hb0 := (Below.refl w.heap.size w).alloc (Nat.le_refl _) (.map #[] 0)
  generalize w.alloc (.map #[] 0) = w1 at hm0 hb0 ⊢
  clear hmm
  have HS := hide hs
  have HM0 := hide hm0
  have HB0 := hide hb0
  clear hs hm0 hb0
  go_loopw [9] (fun i wr => ∃ k : Nat, k ≤ n ∧ i = .int .i64 k ∧ Hid (AMap wr w.heap.size k (isIn (L.take k))) ∧ Hid (Below w.heap.size w wr)) (fun i _ => n - (intOf i).toNat)
  case atStart => exact ⟨0, Nat.zero_le _, rfl, (show AMap _ _ _ _ from HM0.out.congr (fun s => by simp [isIn])), (show Below _ _ _ from HB0.out)⟩
  case round =>
    obtain ⟨k, hk, rfl, Hm, Hb⟩ := hrel
    by_cases hlt : k < n
    · obtain ⟨ad, r, rfl, hab, hR, c0, cj⟩ := (h.below (Hb.out.mono hB)).at_ lc_len (by omega) hlt
      have c1 := cj 1 (by omega) (by omega)
      have hsr := HS.out r (List.mem_of_getElem? hR)
      obtain ⟨x1, x2⟩ := r
      simp only [lc, List.getElem?_cons_zero, List.getElem?_cons_succ] at c0 c1
      have hbw := Hb.out.alloc Hb.out.size (.cells #[.string x1, .string x2] 57)
      obtain ⟨w9, hrun, hm9, hg9⟩ := (Hm.out.alloc (.cells #[.string x1, .string x2] 57)).put (by unfold maxLen; omega) (x1, x2) (Nat.le_trans hsr.1 (by decide)) (Nat.le_trans hsr.2 (by decide))
      simp only at hrun
      have hb9 := hbw.grown hg9 (by have := Hb.out.size; simp; omega) (fun x hx => by have := Option.some.inj hx; omega)
      have HM9 := hide hm9
      have HB9 := hide hb9
      have HR := hide hR
      clear hm9 hb9 hg9 hbw hsr cj hR
      go_wp2_with fail
      go_roundw
      case rel => exact ⟨k + 1, by omega, by go_num, (show AMap _ _ _ _ from HM9.out.congr (fun s => by
        rw [List.take_add_one, HR.out, Option.toList_some, isIn_snoc])), (show Below _ _ _ from HB9.out)⟩
      case measure => simp [intOf]; omega
    · obtain rfl : k = n := by omega
      go_wp2
      go_ret
      have := Hl.out
      have hm := Hm.out
      rw [List.take_of_length_le (by omega)] at hm
      exact ⟨_, rfl, Nat.le_refl _, hm, Hb.out⟩
end Go.Proofs.YtjgbadopladmdaaDoor
