/- The walk of spoiled: a valid product with at most one fault. -/
import Derived.Test.YtjgbadopladmdaaDoorItemW
import Derived.Test.YtjgbadopladmdaaDoorNormW
import Derived.Deep.CutBlock
namespace Go.Proofs.YtjgbadopladmdaaDoor
open Go.RowKit
open Rel (Lk)

/-- the product in block pb, its attributes' row of the call's own -/
def Spo (w : World) (pb B g j : Nat) (wx : World) : Prop :=
  ∃ (p : Pr) (A : Option Addr) (n c : Nat) (L : List Lk), Has w wx pb 50 (pv p (.slice A n c)) ∧ RowL wx w.heap.size A n L ∧ n ≤ 14 ∧ n ≤ c ∧ p.cd.size ≤ 30 ∧ p.br.size ≤ 30 ∧ (∀ r ∈ L, r.1.size ≤ 30 ∧ r.2.size ≤ 30) ∧ Tap w wx B g j ∧ Has w wx w.heap.size 50 #[.string ⟨#[]⟩, .string ⟨#[]⟩, .string ⟨#[]⟩, .int .i64 0, .int .i64 0, .int .i64 0, .slice none 0 0]

/-- a maker of a product, faulty at times -/
def MadeSp (w : World) (B g j : Nat) (e : Ending) (w' : World) : Prop :=
  ∃ (p : Pr) (A : Option Addr) (n c : Nat) (L : List Lk), e = .returned (.agg (pv p (.slice A n c))) ∧ RowL w' w.heap.size A n L ∧ n ≤ 14 ∧ n ≤ c ∧ p.cd.size ≤ 30 ∧ p.br.size ≤ 30 ∧ (∀ r ∈ L, r.1.size ≤ 30 ∧ r.2.size ≤ 30) ∧ Tap w w' B g (j + 9)

theorem powS_short (x : Nat) : (powS x).size ≤ 30 := by unfold powS; split <;> (try split) <;> (try split) <;> decide
theorem colS_short (x : Nat) : (colS x).size ≤ 30 := by unfold colS; split <;> (try split) <;> decide
theorem itemL_short (x y : Nat) (sw : Bool) : ∀ r ∈ itemL x y sw, r.1.size ≤ 30 ∧ r.2.size ≤ 30 := by
  intro r hr
  have h1 : powN.size ≤ 30 := by decide
  have h2 : colN.size ≤ 30 := by decide
  unfold itemL at hr
  split at hr
  · simp only [List.mem_cons, List.not_mem_nil, or_false] at hr
    rcases hr with rfl | rfl
    · exact ⟨h2, colS_short y⟩
    · exact ⟨h1, powS_short x⟩
  · simp only [List.mem_cons, List.not_mem_nil, or_false] at hr
    rcases hr with rfl | rfl
    · exact ⟨h1, powS_short x⟩
    · exact ⟨h2, colS_short y⟩
theorem codeS_short (u : Nat) : (codeS u).size ≤ 30 := by unfold codeS; split <;> decide

def nameAt (L : List Lk) (k : Nat) (s : ByteArray) : List Lk := L.set k (s, (L[k]?.getD (⟨#[]⟩, ⟨#[]⟩)).2)
def valueAt (L : List Lk) (k : Nat) (s : ByteArray) : List Lk := L.set k ((L[k]?.getD (⟨#[]⟩, ⟨#[]⟩)).1, s)
theorem nameAt_len (L : List Lk) (k : Nat) (s : ByteArray) : (nameAt L k s).length = L.length := List.length_set
theorem valueAt_len (L : List Lk) (k : Nat) (s : ByteArray) : (valueAt L k s).length = L.length := List.length_set
theorem getD_short {L : List Lk} (h : ∀ r ∈ L, r.1.size ≤ 30 ∧ r.2.size ≤ 30) (k : Nat) : (L[k]?.getD (⟨#[]⟩, ⟨#[]⟩)).1.size ≤ 30 ∧ (L[k]?.getD (⟨#[]⟩, ⟨#[]⟩)).2.size ≤ 30 := by
  cases hk : L[k]? with
  | none => exact ⟨by decide, by decide⟩
  | some r => exact h r (List.mem_of_getElem? hk)
theorem nameAt_short {L : List Lk} (h : ∀ r ∈ L, r.1.size ≤ 30 ∧ r.2.size ≤ 30) {s : ByteArray} (hs : s.size ≤ 30) {k : Nat} : ∀ r ∈ nameAt L k s, r.1.size ≤ 30 ∧ r.2.size ≤ 30 := fun r hr => by
  rcases List.mem_or_eq_of_mem_set hr with hr | rfl
  · exact h r hr
  · exact ⟨hs, (getD_short h k).2⟩
theorem valueAt_short {L : List Lk} (h : ∀ r ∈ L, r.1.size ≤ 30 ∧ r.2.size ≤ 30) {s : ByteArray} (hs : s.size ≤ 30) {k : Nat} : ∀ r ∈ valueAt L k s, r.1.size ≤ 30 ∧ r.2.size ≤ 30 := fun r hr => by
  rcases List.mem_or_eq_of_mem_set hr with hr | rfl
  · exact h r hr
  · exact ⟨(getD_short h k).1, hs⟩
theorem RowH.nameAt {w0 w : World} {b : Nat} {L : List Lk} (h : RowH w0 w b L) {k : Nat} {r : Lk} (hr : L[k]? = some r) (s : ByteArray) : RowH w0 (w.setCell ⟨b, k * 2, none⟩ (.string s)) b (nameAt L k s) := by
  refine ⟨h.ge, ?_⟩
  have := h.row.set1 hr s
  unfold YtjgbadopladmdaaDoor.nameAt
  rw [hr]
  exact this
theorem RowH.valueAt {w0 w : World} {b : Nat} {L : List Lk} (h : RowH w0 w b L) {k : Nat} {r : Lk} (hr : L[k]? = some r) (s : ByteArray) : RowH w0 (w.setCell ⟨b, k * 2 + 1, none⟩ (.string s)) b (valueAt L k s) := by
  refine ⟨h.ge, ?_⟩
  have := h.row.set2 hr s
  unfold YtjgbadopladmdaaDoor.valueAt
  rw [hr]
  exact this

theorem grownBy_own' {w w0 w1 : World} {size n g : Nat} {e : TypeId} {v : Value} {xs : List Value} (hg : w.grownBy w0 (some g)) (hown : w0.ownsRow w.heap.size e size v n xs) (h : w0.grownBy w1 v.ownBlock) : w.grownBy w1 (some g) := grownBy_own hg hown rfl h
theorem RowH.of_has {w0 w : World} {b : Nat} {L : List Lk} (h : Has w0 w b 57 (L.flatMap lc).toArray) : RowH w0 w b L :=
  ⟨h.ge, ⟨_, h.blk⟩, fun k r hr => by
    have h2 := flat_get L k r hr
    exact ⟨(h.cell _).trans (by rw [List.getElem?_toArray]; exact h2.1), (h.cell _).trans (by rw [List.getElem?_toArray]; exact h2.2)⟩⟩
theorem owns_of_has {w0 w : World} {b n : Nat} {L : List Lk} (h : Has w0 w b 57 (L.flatMap lc).toArray) (hl : L.length = n) (hn : n ≤ maxLen := by decide) : Owns w w0.heap.size 57 2 (.slice (some ⟨b, 0, none⟩) n n) n (L.flatMap lc) := by
  have hf : (L.flatMap lc).length = n * 2 := by rw [flat_len lc_len, hl]
  exact ⟨hf, .inr ⟨b, n, _, rfl, h.ge, h.blk, Nat.le_refl _, hn, by simpa using hf, by rw [List.take_of_length_le (by simp [hf])]⟩⟩
theorem Tap.more {w0 w : World} {B g n m : Nat} (h : Tap w0 w B g n) (hm : n ≤ m) : Tap w0 w B g m := ⟨h.tape.more hm, h.grow, h.lt⟩
theorem spo_mk {w wx : World} {pb B g j j' b : Nat} {L : List Lk} {cs : Array Value} {p : Pr} (hb : Has w wx pb 50 cs) (hp : cs = pv p (.slice (some ⟨b, 0, none⟩) 2 2)) (hr : RowH w wx b L) (hl : L.length = 2) (hs : ∀ r ∈ L, r.1.size ≤ 30 ∧ r.2.size ≤ 30)
    (hz : p.cd.size ≤ 30 ∧ p.br.size ≤ 30) (ht : Tap w wx B g j) (hj : j ≤ j') (h0 : Has w wx w.heap.size 50 #[.string ⟨#[]⟩, .string ⟨#[]⟩, .string ⟨#[]⟩, .int .i64 0, .int .i64 0, .int .i64 0, .slice none 0 0]) : Spo w pb B g j' wx :=
  ⟨p, _, 2, 2, L, hp ▸ hb, ⟨hl, fun _ => ⟨b, rfl, hr.ge, hr.row⟩⟩, by omega, by omega, hz.1, hz.2, hs, ht.more hj, h0⟩

theorem RowL.far0 {w : World} {base n : Nat} {A : Option Addr} {L : List Lk} (h : RowL w base A n L) {p : Addr} (hp : ∀ b, A = some ⟨b, 0, none⟩ → 0 < n → b ≠ p.block) (u : Value) : RowL (w.setCell p u) base A n L :=
  ⟨h.len, fun hn => let ⟨b, e, hge, hr⟩ := h.at_ hn; ⟨b, e, hge, hr.far (hp b e hn) u⟩⟩
theorem rowl_far7 {w : World} {base n q : Nat} {A : Option Addr} {L : List Lk} (h : RowL w base A n L) (hp : ∀ b, A = some ⟨b, 0, none⟩ → 0 < n → b ≠ q) (u0 u1 u2 u3 u4 u5 u6 : Value) :
    RowL (((((((w.setCell ⟨q, 0, none⟩ u0).setCell ⟨q, 1, none⟩ u1).setCell ⟨q, 2, none⟩ u2).setCell ⟨q, 3, none⟩ u3).setCell ⟨q, 4, none⟩ u4).setCell ⟨q, 5, none⟩ u5).setCell ⟨q, 6, none⟩ u6) base A n L :=
  (((((((h.far0 hp _).far0 hp _).far0 hp _).far0 hp _).far0 hp _).far0 hp _).far0 hp _)

set_option maxHeartbeats 8000000 in
set_option maxRecDepth 100000 in
theorem spoiled_any (g j B : Nat) (wz : World) (ht : Tape wz B g j) (hj : j ≤ 9000) :
    Calls Tryd.prog 34 #[.pointer (some ⟨g, 0, none⟩)] wz (MadeSp wz B g j) := by
  obtain ⟨i0, hi, hz0, hz1, hz2⟩ := info_parts info57
  have hlt := ht.lt
  have hBg := ht.base
  have ht0 := ht.alloc (.cells #[.string ⟨#[]⟩, .string ⟨#[]⟩, .string ⟨#[]⟩, .int .i64 0, .int .i64 0, .int .i64 0, .slice none 0 0] 50)
  have hzr0 : Has wz (wz.alloc (.cells #[.string ⟨#[]⟩, .string ⟨#[]⟩, .string ⟨#[]⟩, .int .i64 0, .int .i64 0, .int .i64 0, .slice none 0 0] 50)) wz.heap.size 50 #[.string ⟨#[]⟩, .string ⟨#[]⟩, .string ⟨#[]⟩, .int .i64 0, .int .i64 0, .int .i64 0, .slice none 0 0] := Has.new (Nat.le_refl _) 50 _
  have hg0 := World.grownBy_alloc wz (.cells #[.string ⟨#[]⟩, .string ⟨#[]⟩, .string ⟨#[]⟩, .int .i64 0, .int .i64 0, .int .i64 0, .slice none 0 0] 50) (some g)
  have hc0 := next_any g j B 5 _ ht0 (by omega) (by omega) (by omega)
  have HC0 := hide hc0
  clear hc0 ht0
  go_enter Tryd.func34, Tryd.ntmps34
  go_wp2_with fail
  with_reducible refine HC0.out.mono ?_
  rintro e w1 ⟨k, rfl, k0, k5, ht1, hg1⟩
  obtain ⟨k, rfl⟩ := Int.eq_ofNat_of_zero_le k0
  have hzr1 := hzr0.grown hg1 hlt
  have hgr1 := hg0.trans hg1
  go_wp2_with fail
  with_reducible refine (item_any g (j + 1) B k w1 ht1 (by omega) (by omega)).mono ?_
  rintro e w2 ⟨u, v, x, y, b, sw, rfl, hu, hv, hx, hy, hat, htap⟩
  have hzr2 := hzr1.grown htap.grow hlt
  have hgr2 := hgr1.trans htap.grow
  have hgz1 := hgr1.size
  have hgz2 := hgr2.size
  have hzlt := hzr2.blk.lt
  have htp2 : Tap wz w2 B g (j + 1 + 5) := ⟨htap.tape, hgr2, hlt⟩
  have hat2 : Has wz w2 b 57 ((itemL x y sw).flatMap lc).toArray := ⟨by have := hat.ge; omega, hat.blk⟩
  have hLl : (itemL x y sw).length = 2 := by unfold itemL; cases sw <;> rfl
  have hLs := itemL_short x y sw
  have hcs : (itemP k u v).cd.size ≤ 30 := codeS_short u
  have hbs : (itemP k u v).br.size ≤ 30 := (by decide : (4 : Nat) ≤ 30)
  generalize itemL x y sw = L at hat2 hLl hLs
  generalize itemP k u v = p at hcs hbs ⊢
  obtain ⟨id, cd, br, d, m, am⟩ := p
  simp only at hcs hbs
  simp only [pv]
  have htp3 := htp2.alloc (.cells #[.string id, .string cd, .string br, .int .i64 d, .int .i64 m, .int .i64 am, .slice (some ⟨b, 0, none⟩) 2 2] 50)
  have hzr3 := hzr2.alloc (.cells #[.string id, .string cd, .string br, .int .i64 d, .int .i64 m, .int .i64 am, .slice (some ⟨b, 0, none⟩) 2 2] 50)
  have hbx3 : Has wz (w2.alloc (.cells #[.string id, .string cd, .string br, .int .i64 d, .int .i64 m, .int .i64 am, .slice (some ⟨b, 0, none⟩) 2 2] 50)) w2.heap.size 50 #[.string id, .string cd, .string br, .int .i64 d, .int .i64 m, .int .i64 am, .slice (some ⟨b, 0, none⟩) 2 2] := Has.new hgz2 50 _
  have hat3 := hat2.alloc (.cells #[.string id, .string cd, .string br, .int .i64 d, .int .i64 m, .int .i64 am, .slice (some ⟨b, 0, none⟩) 2 2] 50)
  have hc3 := next_any g (j + 1 + 5) B 9 _ htp3.tape (by omega) (by omega) (by omega)
  have HC3 := hide hc3
  clear hc3 htp2 hzr2 hat2 hat htap hzr1 hg1 hgr1 hzr0 hg0 ht1 hu hv hx hy
  go_wp2_with fail
  with_reducible refine HC3.out.mono ?_
  rintro e W ⟨q, rfl, q0, q9, ht4, hg4⟩
  have htap := htp3.next hg4 ht4
  have hzr := hzr3.grown hg4 hlt
  have hbx := hbx3.grown hg4 hlt
  have hat := hat3.grown hg4 hlt
  have hpb : wz.heap.size < w2.heap.size := hzlt
  generalize w2.heap.size = pb at hbx hpb ⊢
  clear htp3 hzr3 hbx3 hat3 ht4 hg4 hgz1 hgz2 hgr2 k0 k5
  go_upto_block 0 with (fail)
  have hrw : RowH wz W b L := RowH.of_has hat
  have how : Owns W wz.heap.size 57 2 (.slice (some ⟨b, 0, none⟩) 2 2) 2 (L.flatMap lc) := owns_of_has hat hLl
  have HTAP := hide htap
  have HZR := hide hzr
  have HBX := hide hbx
  have HRW := hide hrw
  have HOW := hide how
  have HLs := hide hLs
  clear htap hzr hbx hrw how hat hLs ht HC0 HC3
  go_cut [] (fun wx => Spo wz pb B g (j + 9) wx)
  case first =>
    rcases (show q = 0 ∨ q = 1 ∨ q = 2 ∨ q = 3 ∨ q = 4 ∨ q = 5 ∨ q = 6 ∨ q = 7 ∨ q = 8 by omega) with rfl | rfl | rfl | rfl | rfl | rfl | rfl | rfl | rfl
    · go_wp2_with fail
      with_reducible refine (next_any g (j + 7) B 6 _ (HTAP.out.alloc (.cells #[.string ⟨#[]⟩, .string ⟨#[49, 50, 51, 52, 53, 54, 55]⟩, .string ⟨#[49, 48, 48, 48, 48, 48, 48, 49]⟩, .string ⟨#[52, 48, 48, 54, 51, 56, 49, 51, 51, 51, 57, 51, 49]⟩, .string ⟨#[52, 48, 48, 54, 51, 56, 49, 51, 51, 51, 57, 51, 49, 48]⟩, .string ⟨#[49, 48, 48, 48, 48, 48, 48, 120]⟩] 9)).tape (by omega) (by omega) (by omega)).mono ?_
      rintro e w4 ⟨z, rfl, z0, z1, ht5, hg5⟩
      obtain ⟨z, rfl⟩ := Int.eq_ofNat_of_zero_le z0
      have htp5 := (HTAP.out.alloc (.cells #[.string ⟨#[]⟩, .string ⟨#[49, 50, 51, 52, 53, 54, 55]⟩, .string ⟨#[49, 48, 48, 48, 48, 48, 48, 49]⟩, .string ⟨#[52, 48, 48, 54, 51, 56, 49, 51, 51, 51, 57, 51, 49]⟩, .string ⟨#[52, 48, 48, 54, 51, 56, 49, 51, 51, 51, 57, 51, 49, 48]⟩, .string ⟨#[49, 48, 48, 48, 48, 48, 48, 120]⟩] 9)).next hg5 ht5
      have hzr5 := (HZR.out.alloc (.cells #[.string ⟨#[]⟩, .string ⟨#[49, 50, 51, 52, 53, 54, 55]⟩, .string ⟨#[49, 48, 48, 48, 48, 48, 48, 49]⟩, .string ⟨#[52, 48, 48, 54, 51, 56, 49, 51, 51, 51, 57, 51, 49]⟩, .string ⟨#[52, 48, 48, 54, 51, 56, 49, 51, 51, 51, 57, 51, 49, 48]⟩, .string ⟨#[49, 48, 48, 48, 48, 48, 48, 120]⟩] 9)).grown hg5 hlt
      have hbx5 := (HBX.out.alloc (.cells #[.string ⟨#[]⟩, .string ⟨#[49, 50, 51, 52, 53, 54, 55]⟩, .string ⟨#[49, 48, 48, 48, 48, 48, 48, 49]⟩, .string ⟨#[52, 48, 48, 54, 51, 56, 49, 51, 51, 51, 57, 51, 49]⟩, .string ⟨#[52, 48, 48, 54, 51, 56, 49, 51, 51, 51, 57, 51, 49, 48]⟩, .string ⟨#[49, 48, 48, 48, 48, 48, 48, 120]⟩] 9)).grown hg5 hlt
      have hrw5 := (HRW.out.alloc (.cells #[.string ⟨#[]⟩, .string ⟨#[49, 50, 51, 52, 53, 54, 55]⟩, .string ⟨#[49, 48, 48, 48, 48, 48, 48, 49]⟩, .string ⟨#[52, 48, 48, 54, 51, 56, 49, 51, 51, 51, 57, 51, 49]⟩, .string ⟨#[52, 48, 48, 54, 51, 56, 49, 51, 51, 51, 57, 51, 49, 48]⟩, .string ⟨#[49, 48, 48, 48, 48, 48, 48, 120]⟩] 9)).grown hg5 hlt
      have hli5 := (Has.new (w0 := wz) HTAP.out.size 9 #[.string ⟨#[]⟩, .string ⟨#[49, 50, 51, 52, 53, 54, 55]⟩, .string ⟨#[49, 48, 48, 48, 48, 48, 48, 49]⟩, .string ⟨#[52, 48, 48, 54, 51, 56, 49, 51, 51, 51, 57, 51, 49]⟩, .string ⟨#[52, 48, 48, 54, 51, 56, 49, 51, 51, 51, 57, 51, 49, 48]⟩, .string ⟨#[49, 48, 48, 48, 48, 48, 48, 120]⟩]).grown hg5 hlt
      obtain ⟨s, hs, hsz⟩ : ∃ s : ByteArray, (#[.string ⟨#[]⟩, .string ⟨#[49, 50, 51, 52, 53, 54, 55]⟩, .string ⟨#[49, 48, 48, 48, 48, 48, 48, 49]⟩, .string ⟨#[52, 48, 48, 54, 51, 56, 49, 51, 51, 51, 57, 51, 49]⟩, .string ⟨#[52, 48, 48, 54, 51, 56, 49, 51, 51, 51, 57, 51, 49, 48]⟩, .string ⟨#[49, 48, 48, 48, 48, 48, 48, 120]⟩] : Array Value)[z]? = some (.string s) ∧ s.size ≤ 30 := by
        obtain rfl | rfl | rfl | rfl | rfl | rfl : z = 0 ∨ z = 1 ∨ z = 2 ∨ z = 3 ∨ z = 4 ∨ z = 5 := by omega
        all_goals exact ⟨_, rfl, by decide⟩
      have hc := (hli5.cell z).trans hs
      have c0 := hbx5.cell 0
      have f0 := hbx5.frozen 0
      simp only [List.getElem?_toArray, List.getElem?_cons_zero] at c0
      have hnr := hrw5.row.ne_ hbx5.blk (by decide)
      have H1 := hide hbx5
      have H2 := hide hzr5
      have H3 := hide htp5
      have H4 := hide hrw5
      clear hbx5 hzr5 htp5 hrw5 hli5 hs ht5 hg5
      go_wp2_with fail
      go_meet
      exact spo_mk (p := ⟨s, cd, br, d, m, am⟩) (H1.out.set_ 0 _) rfl ((H4.out).far hnr _) hLl HLs.out ⟨hcs, hbs⟩ (H3.out.far H1.out.ge _) (by omega) (H2.out.far (by show pb ≠ _; omega) _)
    · go_wp2_with fail
      with_reducible refine (next_any g (j + 7) B 4 _ (HTAP.out.alloc (.cells #[.string ⟨#[]⟩, .string ⟨#[49]⟩, .string ⟨#[48, 49, 46, 48]⟩, .string ⟨#[120]⟩] 9)).tape (by omega) (by omega) (by omega)).mono ?_
      rintro e w4 ⟨z, rfl, z0, z1, ht5, hg5⟩
      obtain ⟨z, rfl⟩ := Int.eq_ofNat_of_zero_le z0
      have htp5 := (HTAP.out.alloc (.cells #[.string ⟨#[]⟩, .string ⟨#[49]⟩, .string ⟨#[48, 49, 46, 48]⟩, .string ⟨#[120]⟩] 9)).next hg5 ht5
      have hzr5 := (HZR.out.alloc (.cells #[.string ⟨#[]⟩, .string ⟨#[49]⟩, .string ⟨#[48, 49, 46, 48]⟩, .string ⟨#[120]⟩] 9)).grown hg5 hlt
      have hbx5 := (HBX.out.alloc (.cells #[.string ⟨#[]⟩, .string ⟨#[49]⟩, .string ⟨#[48, 49, 46, 48]⟩, .string ⟨#[120]⟩] 9)).grown hg5 hlt
      have hrw5 := (HRW.out.alloc (.cells #[.string ⟨#[]⟩, .string ⟨#[49]⟩, .string ⟨#[48, 49, 46, 48]⟩, .string ⟨#[120]⟩] 9)).grown hg5 hlt
      have hli5 := (Has.new (w0 := wz) HTAP.out.size 9 #[.string ⟨#[]⟩, .string ⟨#[49]⟩, .string ⟨#[48, 49, 46, 48]⟩, .string ⟨#[120]⟩]).grown hg5 hlt
      obtain ⟨s, hs, hsz⟩ : ∃ s : ByteArray, (#[.string ⟨#[]⟩, .string ⟨#[49]⟩, .string ⟨#[48, 49, 46, 48]⟩, .string ⟨#[120]⟩] : Array Value)[z]? = some (.string s) ∧ s.size ≤ 30 := by
        obtain rfl | rfl | rfl | rfl : z = 0 ∨ z = 1 ∨ z = 2 ∨ z = 3 := by omega
        all_goals exact ⟨_, rfl, by decide⟩
      have hc := (hli5.cell z).trans hs
      have c0 := hbx5.cell 1
      have f0 := hbx5.frozen 1
      simp only [List.getElem?_toArray, List.getElem?_cons_zero, List.getElem?_cons_succ] at c0
      have hnr := hrw5.row.ne_ hbx5.blk (by decide)
      have H1 := hide hbx5
      have H2 := hide hzr5
      have H3 := hide htp5
      have H4 := hide hrw5
      clear hbx5 hzr5 htp5 hrw5 hli5 hs ht5 hg5
      go_wp2_with fail
      go_meet
      exact spo_mk (p := ⟨id, s, br, d, m, am⟩) (H1.out.set_ 1 _) rfl ((H4.out).far hnr _) hLl HLs.out ⟨hsz, hbs⟩ (H3.out.far H1.out.ge _) (by omega) (H2.out.far (by show pb ≠ _; omega) _)
    · go_upto_region 9 with (fail)
      refine wp_region_each (fun a0 D a w => ∃ (lb : Nat) (z : Nat) (s : ByteArray), a = upd a0 [(30, sel (D 0) (.string ⟨#[97, 98, 99, 100, 101, 102, 103, 104, 105, 106, 107, 108, 109, 110, 111, 112, 113, 114, 115, 116, 117, 118, 119, 120, 121, 122]⟩) undef), (31, sel (D 1) (.string ((⟨#[97, 98, 99, 100, 101, 102, 103, 104, 105, 106, 107, 108, 109, 110, 111, 112, 113, 114, 115, 116, 117, 118, 119, 120, 121, 122]⟩ : ByteArray).extract 0 24)) undef), (32, sel (D 2) (.string ⟨#[97, 98, 99, 100, 101, 102, 103, 104, 105, 106, 107, 108, 109, 110, 111, 112, 113, 114, 115, 116, 117, 118, 119, 120, 121, 122]⟩) undef), (33, sel (D 3) (.string ((⟨#[97, 98, 99, 100, 101, 102, 103, 104, 105, 106, 107, 108, 109, 110, 111, 112, 113, 114, 115, 116, 117, 118, 119, 120, 121, 122]⟩ : ByteArray).extract 0 25)) undef), (34, sel (D 4) (.slice (some ⟨lb, 0, none⟩) 8 8) undef), (35, sel (D 5) (.pointer (some ⟨g, 0, none⟩)) undef), (36, sel (D 6) (.int .i64 (z : Int)) undef), (37, sel (D 7) (.pointer (some ⟨lb, z, none⟩)) undef), (38, sel (D 8) (.string s) undef), (39, sel (D 9) (.pointer (some ⟨pb, 2, none⟩)) undef)] ∧ (Tap wz w B g (j + 7 + (D 6).toNat)) ∧ (Has wz w wz.heap.size 50 #[.string ⟨#[]⟩, .string ⟨#[]⟩, .string ⟨#[]⟩, .int .i64 0, .int .i64 0, .int .i64 0, .slice none 0 0]) ∧ (RowH wz w b L) ∧ (D 4 = true → Has wz w lb 9 #[.string ⟨#[]⟩, .string ⟨#[65]⟩, .string ⟨#[45, 97]⟩, .string ((⟨#[97, 98, 99, 100, 101, 102, 103, 104, 105, 106, 107, 108, 109, 110, 111, 112, 113, 114, 115, 116, 117, 118, 119, 120, 121, 122]⟩ : ByteArray).extract 0 24), .string ((⟨#[97, 98, 99, 100, 101, 102, 103, 104, 105, 106, 107, 108, 109, 110, 111, 112, 113, 114, 115, 116, 117, 118, 119, 120, 121, 122]⟩ : ByteArray).extract 0 25), .string ⟨#[97, 32, 98]⟩, .string ⟨#[46, 120]⟩, .string ⟨#[48, 46, 45]⟩]) ∧ (D 6 = true → z < 8) ∧ (D 8 = true → s.size ≤ 30) ∧ (Has wz w pb 50 (bif D 10 then #[.string id, .string cd, .string s, .int .i64 d, .int .i64 m, .int .i64 am, .slice (some ⟨b, 0, none⟩) 2 2] else #[.string id, .string cd, .string br, .int .i64 d, .int .i64 m, .int .i64 am, .slice (some ⟨b, 0, none⟩) 2 2]))) (by kernel_rfl) (by kernel_rfl) ?_ ?_ ?_
      · refine ⟨0, 0, ⟨#[]⟩, ?_, HTAP.out.drew, HZR.out.drew, HRW.out.drew, fun h => Bool.noConfusion h, fun h => Bool.noConfusion h, fun h => Bool.noConfusion h, HBX.out.drew⟩
        simp [upd, Act.put]
      · refine ⟨?_, ?_, ?_, ?_, ?_, ?_, ?_, ?_, ?_, ?_, ?_, trivial⟩
        · intro D a w' K hClo hk0 hd hJ hK
          change D 0 = false at hk0
          obtain ⟨lb, z, s, rfl, htap, hzr, hrw, hli, hz, hsz, hbx⟩ := hJ
          have n1 : D 1 = false := hClo.no 1 rfl (k := 0) (by decide) hk0
          have n9 : D 9 = false := hClo.no 9 rfl (k := 0) (by decide) hk0
          have n10 : D 10 = false := hClo.no 10 rfl (k := 0) (by decide) hk0
          have n4 : D 4 = false := hClo.no 4 rfl (k := 1) (by decide) n1
          have n7 : D 7 = false := hClo.no 7 rfl (k := 4) (by decide) n4
          have n8 : D 8 = false := hClo.no 8 rfl (k := 7) (by decide) n7
          clear hClo hd
          simp only [upd, Act.put, List.setIfInBounds_toArray, List.set_cons_zero, List.set_cons_succ]
          go_wp2_with fail
          refine hK _ _ ⟨lb, z, s, ?_, ?_, ?_, ?_, ?_, ?_, ?_, ?_⟩
          · clear hK
            simp [upd, Act.put, also, *]
          · exact (htap).of_eq (by simp [also, *])
          · exact hzr
          · exact hrw
          · exact fun h => by simp [also, *] at h
          · exact fun h => (hz (by simpa [also] using h))
          · exact fun h => by simp [also, *] at h
          · exact (hbx).of_eq (by simp [also, *])
        · intro D a w' K hClo hk0 hd hJ hK
          change D 1 = false at hk0
          obtain ⟨lb, z, s, rfl, htap, hzr, hrw, hli, hz, hsz, hbx⟩ := hJ
          have e0 : D 0 = true := hd 0 (by decide)
          have n4 : D 4 = false := hClo.no 4 rfl (k := 1) (by decide) hk0
          have n9 : D 9 = false := hClo.no 9 rfl (k := 1) (by decide) hk0
          have n10 : D 10 = false := hClo.no 10 rfl (k := 1) (by decide) hk0
          have n7 : D 7 = false := hClo.no 7 rfl (k := 4) (by decide) n4
          have n8 : D 8 = false := hClo.no 8 rfl (k := 7) (by decide) n7
          clear hClo hd
          simp only [upd, Act.put, List.setIfInBounds_toArray, List.set_cons_zero, List.set_cons_succ, e0]
          go_wp2_with fail
          refine hK _ _ ⟨lb, z, s, ?_, ?_, ?_, ?_, ?_, ?_, ?_, ?_⟩
          · clear hK
            simp [upd, Act.put, also, *]
          · exact (htap).of_eq (by simp [also, *])
          · exact hzr
          · exact hrw
          · exact fun h => by simp [also, *] at h
          · exact fun h => (hz (by simpa [also] using h))
          · exact fun h => by simp [also, *] at h
          · exact (hbx).of_eq (by simp [also, *])
        · intro D a w' K hClo hk0 hd hJ hK
          change D 2 = false at hk0
          obtain ⟨lb, z, s, rfl, htap, hzr, hrw, hli, hz, hsz, hbx⟩ := hJ
          have n3 : D 3 = false := hClo.no 3 rfl (k := 2) (by decide) hk0
          have n9 : D 9 = false := hClo.no 9 rfl (k := 2) (by decide) hk0
          have n10 : D 10 = false := hClo.no 10 rfl (k := 2) (by decide) hk0
          have n4 : D 4 = false := hClo.no 4 rfl (k := 3) (by decide) n3
          have n7 : D 7 = false := hClo.no 7 rfl (k := 4) (by decide) n4
          have n8 : D 8 = false := hClo.no 8 rfl (k := 7) (by decide) n7
          clear hClo hd
          simp only [upd, Act.put, List.setIfInBounds_toArray, List.set_cons_zero, List.set_cons_succ]
          go_wp2_with fail
          refine hK _ _ ⟨lb, z, s, ?_, ?_, ?_, ?_, ?_, ?_, ?_, ?_⟩
          · clear hK
            simp [upd, Act.put, also, *]
          · exact (htap).of_eq (by simp [also, *])
          · exact hzr
          · exact hrw
          · exact fun h => by simp [also, *] at h
          · exact fun h => (hz (by simpa [also] using h))
          · exact fun h => by simp [also, *] at h
          · exact (hbx).of_eq (by simp [also, *])
        · intro D a w' K hClo hk0 hd hJ hK
          change D 3 = false at hk0
          obtain ⟨lb, z, s, rfl, htap, hzr, hrw, hli, hz, hsz, hbx⟩ := hJ
          have e2 : D 2 = true := hd 2 (by decide)
          have n4 : D 4 = false := hClo.no 4 rfl (k := 3) (by decide) hk0
          have n9 : D 9 = false := hClo.no 9 rfl (k := 3) (by decide) hk0
          have n10 : D 10 = false := hClo.no 10 rfl (k := 3) (by decide) hk0
          have n7 : D 7 = false := hClo.no 7 rfl (k := 4) (by decide) n4
          have n8 : D 8 = false := hClo.no 8 rfl (k := 7) (by decide) n7
          clear hClo hd
          simp only [upd, Act.put, List.setIfInBounds_toArray, List.set_cons_zero, List.set_cons_succ, e2]
          go_wp2_with fail
          refine hK _ _ ⟨lb, z, s, ?_, ?_, ?_, ?_, ?_, ?_, ?_, ?_⟩
          · clear hK
            simp [upd, Act.put, also, *]
          · exact (htap).of_eq (by simp [also, *])
          · exact hzr
          · exact hrw
          · exact fun h => by simp [also, *] at h
          · exact fun h => (hz (by simpa [also] using h))
          · exact fun h => by simp [also, *] at h
          · exact (hbx).of_eq (by simp [also, *])
        · intro D a w' K hClo hk0 hd hJ hK
          change D 4 = false at hk0
          obtain ⟨lb, z, s, rfl, htap, hzr, hrw, hli, hz, hsz, hbx⟩ := hJ
          have e1 : D 1 = true := hd 1 (by decide)
          have e3 : D 3 = true := hd 3 (by decide)
          have n7 : D 7 = false := hClo.no 7 rfl (k := 4) (by decide) hk0
          have n9 : D 9 = false := hClo.no 9 rfl (k := 4) (by decide) hk0
          have n10 : D 10 = false := hClo.no 10 rfl (k := 4) (by decide) hk0
          have n8 : D 8 = false := hClo.no 8 rfl (k := 7) (by decide) n7
          clear hClo hd
          simp only [upd, Act.put, List.setIfInBounds_toArray, List.set_cons_zero, List.set_cons_succ, e1, e3]
          go_wp2_with fail
          refine hK _ _ ⟨w'.heap.size, z, s, ?_, ?_, ?_, ?_, ?_, ?_, ?_, ?_⟩
          · clear hK
            simp [upd, Act.put, also, *]
          · exact (htap.alloc _).of_eq (by simp [also, *])
          · exact hzr.alloc _
          · exact hrw.alloc _
          · exact fun _ => Has.new htap.size 9 _
          · exact fun h => (hz (by simpa [also] using h))
          · exact fun h => by simp [also, *] at h
          · exact (hbx.alloc _).of_eq (by simp [also, *])
        · intro D a w' K hClo hk0 hd hJ hK
          change D 5 = false at hk0
          obtain ⟨lb, z, s, rfl, htap, hzr, hrw, hli, hz, hsz, hbx⟩ := hJ
          have n6 : D 6 = false := hClo.no 6 rfl (k := 5) (by decide) hk0
          have n9 : D 9 = false := hClo.no 9 rfl (k := 5) (by decide) hk0
          have n10 : D 10 = false := hClo.no 10 rfl (k := 5) (by decide) hk0
          have n7 : D 7 = false := hClo.no 7 rfl (k := 6) (by decide) n6
          have n8 : D 8 = false := hClo.no 8 rfl (k := 7) (by decide) n7
          clear hClo hd
          simp only [upd, Act.put, List.setIfInBounds_toArray, List.set_cons_zero, List.set_cons_succ]
          go_wp2_with fail
          refine hK _ _ ⟨lb, z, s, ?_, ?_, ?_, ?_, ?_, ?_, ?_, ?_⟩
          · clear hK
            simp [upd, Act.put, also, *]
          · exact (htap).of_eq (by simp [also, *])
          · exact hzr
          · exact hrw
          · exact fun h => (hli (by simpa [also] using h))
          · exact fun h => by simp [also, *] at h
          · exact fun h => by simp [also, *] at h
          · exact (hbx).of_eq (by simp [also, *])
        · intro D a w' K hClo hk0 hd hJ hK
          change D 6 = false at hk0
          obtain ⟨lb, z, s, rfl, htap, hzr, hrw, hli, hz, hsz, hbx⟩ := hJ
          have e5 : D 5 = true := hd 5 (by decide)
          have n7 : D 7 = false := hClo.no 7 rfl (k := 6) (by decide) hk0
          have n9 : D 9 = false := hClo.no 9 rfl (k := 6) (by decide) hk0
          have n10 : D 10 = false := hClo.no 10 rfl (k := 6) (by decide) hk0
          have n8 : D 8 = false := hClo.no 8 rfl (k := 7) (by decide) n7
          clear hClo hd
          have ht0 := (show Tap wz w' B g (j + 7) from htap.of_eq (by simp [hk0]))
          simp only [upd, Act.put, List.setIfInBounds_toArray, List.set_cons_zero, List.set_cons_succ, e5]
          go_wp2_with fail
          with_reducible refine (next_any g _ B 8 _ ht0.tape (by omega) (by omega) (by omega)).mono ?_
          rintro e w2 ⟨zz, rfl, z0, z1, ht2, hg2⟩
          obtain ⟨zz, rfl⟩ := Int.eq_ofNat_of_zero_le z0
          go_wp2_with fail
          refine hK _ _ ⟨lb, zz, s, ?_, ?_, ?_, ?_, ?_, ?_, ?_, ?_⟩
          · clear hK
            simp [upd, Act.put, also, *]
          · exact (ht0.next hg2 ht2).of_eq (by simp [also, *])
          · exact hzr.grown hg2 ht0.lt
          · exact hrw.grown hg2 ht0.lt
          · exact fun h => (hli (by simpa [also] using h)).grown hg2 ht0.lt
          · exact fun _ => by omega
          · exact fun h => by simp [also, *] at h
          · exact (hbx.grown hg2 ht0.lt).of_eq (by simp [also, *])
        · intro D a w' K hClo hk0 hd hJ hK
          change D 7 = false at hk0
          obtain ⟨lb, z, s, rfl, htap, hzr, hrw, hli, hz, hsz, hbx⟩ := hJ
          have e4 : D 4 = true := hd 4 (by decide)
          have e6 : D 6 = true := hd 6 (by decide)
          have n8 : D 8 = false := hClo.no 8 rfl (k := 7) (by decide) hk0
          have n9 : D 9 = false := hClo.no 9 rfl (k := 7) (by decide) hk0
          have n10 : D 10 = false := hClo.no 10 rfl (k := 7) (by decide) hk0
          clear hClo hd
          have hx2 := hz e6
          have hx1 : (z : Int) < 8 := by omega
          simp only [upd, Act.put, List.setIfInBounds_toArray, List.set_cons_zero, List.set_cons_succ, e4, e6]
          go_wp2_with fail
          refine hK _ _ ⟨lb, z, s, ?_, ?_, ?_, ?_, ?_, ?_, ?_, ?_⟩
          · clear hK
            simp [upd, Act.put, also, *]
          · exact (htap).of_eq (by simp [also, *])
          · exact hzr
          · exact hrw
          · exact fun h => (hli (by simpa [also] using h))
          · exact fun h => (hz (by simpa [also] using h))
          · exact fun h => by simp [also, *] at h
          · exact (hbx).of_eq (by simp [also, *])
        · intro D a w' K hClo hk0 hd hJ hK
          change D 8 = false at hk0
          obtain ⟨lb, z, s, rfl, htap, hzr, hrw, hli, hz, hsz, hbx⟩ := hJ
          have e7 : D 7 = true := hd 7 (by decide)
          have n9 : D 9 = false := hClo.no 9 rfl (k := 8) (by decide) hk0
          have n10 : D 10 = false := hClo.no 10 rfl (k := 8) (by decide) hk0
          have q4_7 : D 4 = true := (hClo 7 _ rfl e7 4 (by decide))
          have q6_7 : D 6 = true := (hClo 7 _ rfl e7 6 (by decide))
          clear hClo hd
          have hx2 := hz q6_7
          obtain ⟨s2, hs2, hsz2⟩ : ∃ s2 : ByteArray, (#[.string ⟨#[]⟩, .string ⟨#[65]⟩, .string ⟨#[45, 97]⟩, .string ((⟨#[97, 98, 99, 100, 101, 102, 103, 104, 105, 106, 107, 108, 109, 110, 111, 112, 113, 114, 115, 116, 117, 118, 119, 120, 121, 122]⟩ : ByteArray).extract 0 24), .string ((⟨#[97, 98, 99, 100, 101, 102, 103, 104, 105, 106, 107, 108, 109, 110, 111, 112, 113, 114, 115, 116, 117, 118, 119, 120, 121, 122]⟩ : ByteArray).extract 0 25), .string ⟨#[97, 32, 98]⟩, .string ⟨#[46, 120]⟩, .string ⟨#[48, 46, 45]⟩] : Array Value)[z]? = some (.string s2) ∧ s2.size ≤ 30 := by
            obtain rfl | rfl | rfl | rfl | rfl | rfl | rfl | rfl : z = 0 ∨ z = 1 ∨ z = 2 ∨ z = 3 ∨ z = 4 ∨ z = 5 ∨ z = 6 ∨ z = 7 := by omega
            all_goals exact ⟨_, rfl, by decide⟩
          have hc := ((hli q4_7).cell z).trans hs2
          clear hs2
          simp only [upd, Act.put, List.setIfInBounds_toArray, List.set_cons_zero, List.set_cons_succ, e7]
          go_wp2_with fail
          refine hK _ _ ⟨lb, z, s2, ?_, ?_, ?_, ?_, ?_, ?_, ?_, ?_⟩
          · clear hK
            simp [upd, Act.put, also, *]
          · exact (htap).of_eq (by simp [also, *])
          · exact hzr
          · exact hrw
          · exact fun h => (hli (by simpa [also] using h))
          · exact fun h => (hz (by simpa [also] using h))
          · exact fun _ => hsz2
          · exact (hbx).of_eq (by simp [also, *])
        · intro D a w' K hClo hk0 hd hJ hK
          change D 9 = false at hk0
          obtain ⟨lb, z, s, rfl, htap, hzr, hrw, hli, hz, hsz, hbx⟩ := hJ
          have e0 : D 0 = true := hd 0 (by decide)
          have e1 : D 1 = true := hd 1 (by decide)
          have e2 : D 2 = true := hd 2 (by decide)
          have e3 : D 3 = true := hd 3 (by decide)
          have e4 : D 4 = true := hd 4 (by decide)
          have e5 : D 5 = true := hd 5 (by decide)
          have e6 : D 6 = true := hd 6 (by decide)
          have e7 : D 7 = true := hd 7 (by decide)
          have e8 : D 8 = true := hd 8 (by decide)
          have n10 : D 10 = false := hClo.no 10 rfl (k := 9) (by decide) hk0
          clear hClo hd
          simp only [upd, Act.put, List.setIfInBounds_toArray, List.set_cons_zero, List.set_cons_succ, e0, e1, e2, e3, e4, e5, e6, e7, e8]
          go_wp2_with fail
          refine hK _ _ ⟨lb, z, s, ?_, ?_, ?_, ?_, ?_, ?_, ?_, ?_⟩
          · clear hK
            simp [upd, Act.put, also, *]
          · exact (htap).of_eq (by simp [also, *])
          · exact hzr
          · exact hrw
          · exact fun h => (hli (by simpa [also] using h))
          · exact fun h => (hz (by simpa [also] using h))
          · exact fun h => (hsz (by simpa [also] using h))
          · exact (hbx).of_eq (by simp [also, *])
        · intro D a w' K hClo hk0 hd hJ hK
          change D 10 = false at hk0
          obtain ⟨lb, z, s, rfl, htap, hzr, hrw, hli, hz, hsz, hbx⟩ := hJ
          have e0 : D 0 = true := hd 0 (by decide)
          have e1 : D 1 = true := hd 1 (by decide)
          have e2 : D 2 = true := hd 2 (by decide)
          have e3 : D 3 = true := hd 3 (by decide)
          have e4 : D 4 = true := hd 4 (by decide)
          have e5 : D 5 = true := hd 5 (by decide)
          have e6 : D 6 = true := hd 6 (by decide)
          have e7 : D 7 = true := hd 7 (by decide)
          have e8 : D 8 = true := hd 8 (by decide)
          have e9 : D 9 = true := hd 9 (by decide)
          clear hClo hd
          have hbx1 : Has wz w' pb 50 #[.string id, .string cd, .string br, .int .i64 d, .int .i64 m, .int .i64 am, .slice (some ⟨b, 0, none⟩) 2 2] := hbx.of_eq (by rw [hk0]; rfl)
          have hge := hbx1.ge
          have hne := hbx1.blk.ne_ (hli e4).blk (by decide)
          have hnr := hrw.row.ne_ hbx1.blk (by decide)
          have c2 := hbx1.cell 2
          have f2 := hbx1.frozen 2
          simp only [List.getElem?_toArray, List.getElem?_cons_zero, List.getElem?_cons_succ] at c2
          have Hbx := hide hbx1
          clear hbx1 hbx
          simp only [upd, Act.put, List.setIfInBounds_toArray, List.set_cons_zero, List.set_cons_succ, e0, e1, e2, e3, e4, e5, e6, e7, e8, e9]
          go_wp2_with fail
          refine hK _ _ ⟨lb, z, s, ?_, ?_, ?_, ?_, ?_, ?_, ?_, ?_⟩
          · clear hK
            simp [upd, Act.put, also, *]
          · exact (htap.far hge _).of_eq (by simp [also, *])
          · exact hzr.far (by show pb ≠ _; omega) _
          · exact hrw.far hnr _
          · exact fun _ => (hli e4).far hne _
          · exact fun h => (hz (by simpa [also] using h))
          · exact fun h => (hsz (by simpa [also] using h))
          · exact (Hbx.out.set_ 2 _).of_eq (by simp [also])
      · intro D a' w5 hall hJ
        obtain ⟨lb, z, s, rfl, htap, hzr, hrw, hli, hz, hsz, hbx⟩ := hJ
        have e0 : D 0 = true := hall 0 (by decide)
        have e1 : D 1 = true := hall 1 (by decide)
        have e2 : D 2 = true := hall 2 (by decide)
        have e3 : D 3 = true := hall 3 (by decide)
        have e4 : D 4 = true := hall 4 (by decide)
        have e5 : D 5 = true := hall 5 (by decide)
        have e6 : D 6 = true := hall 6 (by decide)
        have e7 : D 7 = true := hall 7 (by decide)
        have e8 : D 8 = true := hall 8 (by decide)
        have e9 : D 9 = true := hall 9 (by decide)
        have e10 : D 10 = true := hall 10 (by decide)
        clear hall
        replace htap : Tap wz w5 B g (j + 8) := htap.of_eq (by simp [*])
        replace hli := hli e4
        replace hz := hz e6
        replace hsz := hsz e8
        replace hbx : Has wz w5 pb 50 #[.string id, .string cd, .string s, .int .i64 d, .int .i64 m, .int .i64 am, .slice (some ⟨b, 0, none⟩) 2 2] := hbx.of_eq (by simp [*])
        simp only [upd, Act.put, List.setIfInBounds_toArray, List.set_cons_zero, List.set_cons_succ, sel_true, e0, e1, e2, e3, e4, e5, e6, e7, e8, e9]
        clear e0 e1 e2 e3 e4 e5 e6 e7 e8 e9 e10
        go_wp2_with fail
        go_meet
        exact spo_mk (p := ⟨id, cd, s, d, m, am⟩) hbx rfl hrw hLl HLs.out ⟨hcs, hsz⟩ htap (by omega) hzr
    · go_wp2_with fail
      with_reducible refine (next_any g (j + 7) B 4 _ (HTAP.out.alloc (.cells #[.int .i64 0, .int .i64 0, .int .i64 0, .int .i64 5, .int .i64 1, .int .i64 1, .int .i64 1, .int .i64 101, .int .i64 1, .int .i64 1, .int .i64 1, .int .i64 0] 47)).tape (by omega) (by omega) (by omega)).mono ?_
      rintro e w4 ⟨z, rfl, z0, z1, ht5, hg5⟩
      have htp5 := (HTAP.out.alloc (.cells #[.int .i64 0, .int .i64 0, .int .i64 0, .int .i64 5, .int .i64 1, .int .i64 1, .int .i64 1, .int .i64 101, .int .i64 1, .int .i64 1, .int .i64 1, .int .i64 0] 47)).next hg5 ht5
      have hzr5 := (HZR.out.alloc (.cells #[.int .i64 0, .int .i64 0, .int .i64 0, .int .i64 5, .int .i64 1, .int .i64 1, .int .i64 1, .int .i64 101, .int .i64 1, .int .i64 1, .int .i64 1, .int .i64 0] 47)).grown hg5 hlt
      have hbx5 := (HBX.out.alloc (.cells #[.int .i64 0, .int .i64 0, .int .i64 0, .int .i64 5, .int .i64 1, .int .i64 1, .int .i64 1, .int .i64 101, .int .i64 1, .int .i64 1, .int .i64 1, .int .i64 0] 47)).grown hg5 hlt
      have hrw5 := (HRW.out.alloc (.cells #[.int .i64 0, .int .i64 0, .int .i64 0, .int .i64 5, .int .i64 1, .int .i64 1, .int .i64 1, .int .i64 101, .int .i64 1, .int .i64 1, .int .i64 1, .int .i64 0] 47)).grown hg5 hlt
      have hli5 := (Has.new (w0 := wz) HTAP.out.size 47 #[.int .i64 0, .int .i64 0, .int .i64 0, .int .i64 5, .int .i64 1, .int .i64 1, .int .i64 1, .int .i64 101, .int .i64 1, .int .i64 1, .int .i64 1, .int .i64 0]).grown hg5 hlt
      have l0 := hli5.cell 0
      have l1 := hli5.cell 1
      have l2 := hli5.cell 2
      have l3 := hli5.cell 3
      have l4 := hli5.cell 4
      have l5 := hli5.cell 5
      have l6 := hli5.cell 6
      have l7 := hli5.cell 7
      have l8 := hli5.cell 8
      have l9 := hli5.cell 9
      have l10 := hli5.cell 10
      have l11 := hli5.cell 11
      have c3 := hbx5.cell 3
      have c4 := hbx5.cell 4
      have c5 := hbx5.cell 5
      have f3 := hbx5.frozen 3
      have f4 := hbx5.frozen 4
      have f5 := hbx5.frozen 5
      simp only [List.getElem?_toArray, List.getElem?_cons_zero, List.getElem?_cons_succ] at c3 c4 c5 l0 l1 l2 l3 l4 l5 l6 l7 l8 l9 l10 l11
      have hnr := hrw5.row.ne_ hbx5.blk (by decide)
      have hnl := hbx5.blk.ne_ hli5.blk (by decide)
      have hnl' : W.heap.size ≠ pb := fun e => hnl e.symm
      have H1 := hide hbx5
      have H2 := hide hzr5
      have H3 := hide htp5
      have H4 := hide hrw5
      clear hbx5 hzr5 htp5 hrw5 hli5 ht5 hg5
      obtain rfl | rfl | rfl | rfl : z = 0 ∨ z = 1 ∨ z = 2 ∨ z = 3 := by omega
      all_goals
        go_wp2_with fail
        go_meet
        exact spo_mk (p := ⟨id, cd, br, _, _, _⟩) (((H1.out.set_ 3 _).set_ 4 _).set_ 5 _) rfl (((H4.out.far hnr _).far hnr _).far hnr _) hLl HLs.out ⟨hcs, hbs⟩ (((H3.out.far H1.out.ge _).far H1.out.ge _).far H1.out.ge _) (by omega)
          (((H2.out.far (by show pb ≠ _; omega) _).far (by show pb ≠ _; omega) _).far (by show pb ≠ _; omega) _)
    · go_upto_region 13 with (fail)
      refine wp_region_each (fun a0 D a w => ∃ (lb : Nat) (y1 : Nat) (z : Nat) (s : ByteArray), a = upd a0 [(54, sel (D 0) (.pointer (some ⟨pb, 6, none⟩)) undef), (55, sel (D 1) (.slice (some ⟨b, 0, none⟩) 2 2) undef), (56, sel (D 2) (.pointer (some ⟨g, 0, none⟩)) undef), (57, sel (D 3) (.int .i64 (y1 : Int)) undef), (58, sel (D 4) (.string ⟨#[97, 98, 99, 100, 101, 102, 103, 104, 105, 106, 107, 108, 109, 110, 111, 112, 113, 114, 115, 116, 117, 118, 119, 120, 121, 122]⟩) undef), (59, sel (D 5) (.string ((⟨#[97, 98, 99, 100, 101, 102, 103, 104, 105, 106, 107, 108, 109, 110, 111, 112, 113, 114, 115, 116, 117, 118, 119, 120, 121, 122]⟩ : ByteArray).extract 0 25)) undef), (60, sel (D 6) (.slice (some ⟨lb, 0, none⟩) 5 5) undef), (61, sel (D 7) (.pointer (some ⟨g, 0, none⟩)) undef), (62, sel (D 8) (.int .i64 (z : Int)) undef), (63, sel (D 9) (.pointer (some ⟨lb, z, none⟩)) undef), (64, sel (D 10) (.string s) undef), (65, sel (D 11) (.pointer (some ⟨b, y1 * 2, none⟩)) undef), (66, sel (D 12) (.pointer (some ⟨b, y1 * 2, none⟩)) undef)] ∧ (Tap wz w B g (j + 7 + (D 3).toNat + (D 8).toNat)) ∧ (Has wz w wz.heap.size 50 #[.string ⟨#[]⟩, .string ⟨#[]⟩, .string ⟨#[]⟩, .int .i64 0, .int .i64 0, .int .i64 0, .slice none 0 0]) ∧ (Has wz w pb 50 #[.string id, .string cd, .string br, .int .i64 d, .int .i64 m, .int .i64 am, .slice (some ⟨b, 0, none⟩) 2 2]) ∧ (D 6 = true → Has wz w lb 9 #[.string ⟨#[]⟩, .string ⟨#[112, 111, 119, 101, 114]⟩, .string ⟨#[99, 111, 108, 111, 117, 114]⟩, .string ⟨#[88]⟩, .string ((⟨#[97, 98, 99, 100, 101, 102, 103, 104, 105, 106, 107, 108, 109, 110, 111, 112, 113, 114, 115, 116, 117, 118, 119, 120, 121, 122]⟩ : ByteArray).extract 0 25)]) ∧ (D 3 = true → y1 < 2) ∧ (D 8 = true → z < 5) ∧ (D 10 = true → s.size ≤ 30) ∧ (RowH wz w b (bif D 13 then nameAt L y1 s else L))) (by kernel_rfl) (by kernel_rfl) ?_ ?_ ?_
      · refine ⟨0, 0, 0, ⟨#[]⟩, ?_, HTAP.out.drew, HZR.out.drew, HBX.out.drew, fun h => Bool.noConfusion h, fun h => Bool.noConfusion h, fun h => Bool.noConfusion h, fun h => Bool.noConfusion h, HRW.out.drew⟩
        simp [upd, Act.put]
      · refine ⟨?_, ?_, ?_, ?_, ?_, ?_, ?_, ?_, ?_, ?_, ?_, ?_, ?_, ?_, trivial⟩
        · intro D a w' K hClo hk0 hd hJ hK
          change D 0 = false at hk0
          obtain ⟨lb, y1, z, s, rfl, htap, hzr, hbx, hli, hy1, hz, hsz, hrw⟩ := hJ
          have n1 : D 1 = false := hClo.no 1 rfl (k := 0) (by decide) hk0
          have n11 : D 11 = false := hClo.no 11 rfl (k := 0) (by decide) hk0
          have n12 : D 12 = false := hClo.no 12 rfl (k := 0) (by decide) hk0
          have n13 : D 13 = false := hClo.no 13 rfl (k := 0) (by decide) hk0
          clear hClo hd
          simp only [upd, Act.put, List.setIfInBounds_toArray, List.set_cons_zero, List.set_cons_succ]
          go_wp2_with fail
          refine hK _ _ ⟨lb, y1, z, s, ?_, ?_, ?_, ?_, ?_, ?_, ?_, ?_, ?_⟩
          · clear hK
            simp [upd, Act.put, also, *]
          · exact (htap).of_eq (by simp [also, *])
          · exact hzr
          · exact hbx
          · exact fun h => (hli (by simpa [also] using h))
          · exact fun h => (hy1 (by simpa [also] using h))
          · exact fun h => (hz (by simpa [also] using h))
          · exact fun h => (hsz (by simpa [also] using h))
          · exact (hrw).of_eq (by simp [also, *])
        · intro D a w' K hClo hk0 hd hJ hK
          change D 1 = false at hk0
          obtain ⟨lb, y1, z, s, rfl, htap, hzr, hbx, hli, hy1, hz, hsz, hrw⟩ := hJ
          have e0 : D 0 = true := hd 0 (by decide)
          have n11 : D 11 = false := hClo.no 11 rfl (k := 1) (by decide) hk0
          have n12 : D 12 = false := hClo.no 12 rfl (k := 1) (by decide) hk0
          have n13 : D 13 = false := hClo.no 13 rfl (k := 1) (by decide) hk0
          clear hClo hd
          have c6 := hbx.cell 6
          simp only [List.getElem?_toArray, List.getElem?_cons_zero, List.getElem?_cons_succ] at c6
          simp only [upd, Act.put, List.setIfInBounds_toArray, List.set_cons_zero, List.set_cons_succ, e0]
          go_wp2_with fail
          refine hK _ _ ⟨lb, y1, z, s, ?_, ?_, ?_, ?_, ?_, ?_, ?_, ?_, ?_⟩
          · clear hK
            simp [upd, Act.put, also, *]
          · exact (htap).of_eq (by simp [also, *])
          · exact hzr
          · exact hbx
          · exact fun h => (hli (by simpa [also] using h))
          · exact fun h => (hy1 (by simpa [also] using h))
          · exact fun h => (hz (by simpa [also] using h))
          · exact fun h => (hsz (by simpa [also] using h))
          · exact (hrw).of_eq (by simp [also, *])
        · intro D a w' K hClo hk0 hd hJ hK
          change D 2 = false at hk0
          obtain ⟨lb, y1, z, s, rfl, htap, hzr, hbx, hli, hy1, hz, hsz, hrw⟩ := hJ
          have n3 : D 3 = false := hClo.no 3 rfl (k := 2) (by decide) hk0
          have n11 : D 11 = false := hClo.no 11 rfl (k := 2) (by decide) hk0
          have n12 : D 12 = false := hClo.no 12 rfl (k := 2) (by decide) hk0
          have n13 : D 13 = false := hClo.no 13 rfl (k := 2) (by decide) hk0
          have n8 : D 8 = false := hClo.no 8 rfl (k := 3) (by decide) n3
          have n9 : D 9 = false := hClo.no 9 rfl (k := 8) (by decide) n8
          have n10 : D 10 = false := hClo.no 10 rfl (k := 9) (by decide) n9
          clear hClo hd
          simp only [upd, Act.put, List.setIfInBounds_toArray, List.set_cons_zero, List.set_cons_succ]
          go_wp2_with fail
          refine hK _ _ ⟨lb, y1, z, s, ?_, ?_, ?_, ?_, ?_, ?_, ?_, ?_, ?_⟩
          · clear hK
            simp [upd, Act.put, also, *]
          · exact (htap).of_eq (by simp [also, *])
          · exact hzr
          · exact hbx
          · exact fun h => (hli (by simpa [also] using h))
          · exact fun h => by simp [also, *] at h
          · exact fun h => by simp [also, *] at h
          · exact fun h => by simp [also, *] at h
          · exact (hrw).of_eq (by simp [also, *])
        · intro D a w' K hClo hk0 hd hJ hK
          change D 3 = false at hk0
          obtain ⟨lb, y1, z, s, rfl, htap, hzr, hbx, hli, hy1, hz, hsz, hrw⟩ := hJ
          have e2 : D 2 = true := hd 2 (by decide)
          have n8 : D 8 = false := hClo.no 8 rfl (k := 3) (by decide) hk0
          have n11 : D 11 = false := hClo.no 11 rfl (k := 3) (by decide) hk0
          have n12 : D 12 = false := hClo.no 12 rfl (k := 3) (by decide) hk0
          have n13 : D 13 = false := hClo.no 13 rfl (k := 3) (by decide) hk0
          have n9 : D 9 = false := hClo.no 9 rfl (k := 8) (by decide) n8
          have n10 : D 10 = false := hClo.no 10 rfl (k := 9) (by decide) n9
          clear hClo hd
          have ht0 := (show Tap wz w' B g (j + 7) from htap.of_eq (by simp [hk0, n8]))
          simp only [upd, Act.put, List.setIfInBounds_toArray, List.set_cons_zero, List.set_cons_succ, e2]
          go_wp2_with fail
          with_reducible refine (next_any g _ B 2 _ ht0.tape (by omega) (by omega) (by omega)).mono ?_
          rintro e w2 ⟨zz, rfl, z0, z1, ht2, hg2⟩
          obtain ⟨zz, rfl⟩ := Int.eq_ofNat_of_zero_le z0
          go_wp2_with fail
          refine hK _ _ ⟨lb, zz, z, s, ?_, ?_, ?_, ?_, ?_, ?_, ?_, ?_, ?_⟩
          · clear hK
            simp [upd, Act.put, also, *]
          · exact (ht0.next hg2 ht2).of_eq (by simp [also, *])
          · exact hzr.grown hg2 ht0.lt
          · exact hbx.grown hg2 ht0.lt
          · exact fun h => (hli (by simpa [also] using h)).grown hg2 ht0.lt
          · exact fun _ => by omega
          · exact fun h => by simp [also, *] at h
          · exact fun h => by simp [also, *] at h
          · exact (hrw.grown hg2 ht0.lt).of_eq (by simp [also, *])
        · intro D a w' K hClo hk0 hd hJ hK
          change D 4 = false at hk0
          obtain ⟨lb, y1, z, s, rfl, htap, hzr, hbx, hli, hy1, hz, hsz, hrw⟩ := hJ
          have n5 : D 5 = false := hClo.no 5 rfl (k := 4) (by decide) hk0
          have n11 : D 11 = false := hClo.no 11 rfl (k := 4) (by decide) hk0
          have n12 : D 12 = false := hClo.no 12 rfl (k := 4) (by decide) hk0
          have n13 : D 13 = false := hClo.no 13 rfl (k := 4) (by decide) hk0
          have n6 : D 6 = false := hClo.no 6 rfl (k := 5) (by decide) n5
          have n9 : D 9 = false := hClo.no 9 rfl (k := 6) (by decide) n6
          have n10 : D 10 = false := hClo.no 10 rfl (k := 9) (by decide) n9
          clear hClo hd
          simp only [upd, Act.put, List.setIfInBounds_toArray, List.set_cons_zero, List.set_cons_succ]
          go_wp2_with fail
          refine hK _ _ ⟨lb, y1, z, s, ?_, ?_, ?_, ?_, ?_, ?_, ?_, ?_, ?_⟩
          · clear hK
            simp [upd, Act.put, also, *]
          · exact (htap).of_eq (by simp [also, *])
          · exact hzr
          · exact hbx
          · exact fun h => by simp [also, *] at h
          · exact fun h => (hy1 (by simpa [also] using h))
          · exact fun h => (hz (by simpa [also] using h))
          · exact fun h => by simp [also, *] at h
          · exact (hrw).of_eq (by simp [also, *])
        · intro D a w' K hClo hk0 hd hJ hK
          change D 5 = false at hk0
          obtain ⟨lb, y1, z, s, rfl, htap, hzr, hbx, hli, hy1, hz, hsz, hrw⟩ := hJ
          have e4 : D 4 = true := hd 4 (by decide)
          have n6 : D 6 = false := hClo.no 6 rfl (k := 5) (by decide) hk0
          have n11 : D 11 = false := hClo.no 11 rfl (k := 5) (by decide) hk0
          have n12 : D 12 = false := hClo.no 12 rfl (k := 5) (by decide) hk0
          have n13 : D 13 = false := hClo.no 13 rfl (k := 5) (by decide) hk0
          have n9 : D 9 = false := hClo.no 9 rfl (k := 6) (by decide) n6
          have n10 : D 10 = false := hClo.no 10 rfl (k := 9) (by decide) n9
          clear hClo hd
          simp only [upd, Act.put, List.setIfInBounds_toArray, List.set_cons_zero, List.set_cons_succ, e4]
          go_wp2_with fail
          refine hK _ _ ⟨lb, y1, z, s, ?_, ?_, ?_, ?_, ?_, ?_, ?_, ?_, ?_⟩
          · clear hK
            simp [upd, Act.put, also, *]
          · exact (htap).of_eq (by simp [also, *])
          · exact hzr
          · exact hbx
          · exact fun h => by simp [also, *] at h
          · exact fun h => (hy1 (by simpa [also] using h))
          · exact fun h => (hz (by simpa [also] using h))
          · exact fun h => by simp [also, *] at h
          · exact (hrw).of_eq (by simp [also, *])
        · intro D a w' K hClo hk0 hd hJ hK
          change D 6 = false at hk0
          obtain ⟨lb, y1, z, s, rfl, htap, hzr, hbx, hli, hy1, hz, hsz, hrw⟩ := hJ
          have e5 : D 5 = true := hd 5 (by decide)
          have n9 : D 9 = false := hClo.no 9 rfl (k := 6) (by decide) hk0
          have n11 : D 11 = false := hClo.no 11 rfl (k := 6) (by decide) hk0
          have n12 : D 12 = false := hClo.no 12 rfl (k := 6) (by decide) hk0
          have n13 : D 13 = false := hClo.no 13 rfl (k := 6) (by decide) hk0
          have n10 : D 10 = false := hClo.no 10 rfl (k := 9) (by decide) n9
          clear hClo hd
          simp only [upd, Act.put, List.setIfInBounds_toArray, List.set_cons_zero, List.set_cons_succ, e5]
          go_wp2_with fail
          refine hK _ _ ⟨w'.heap.size, y1, z, s, ?_, ?_, ?_, ?_, ?_, ?_, ?_, ?_, ?_⟩
          · clear hK
            simp [upd, Act.put, also, *]
          · exact (htap.alloc _).of_eq (by simp [also, *])
          · exact hzr.alloc _
          · exact hbx.alloc _
          · exact fun _ => Has.new htap.size 9 _
          · exact fun h => (hy1 (by simpa [also] using h))
          · exact fun h => (hz (by simpa [also] using h))
          · exact fun h => by simp [also, *] at h
          · exact (hrw.alloc _).of_eq (by simp [also, *])
        · intro D a w' K hClo hk0 hd hJ hK
          change D 7 = false at hk0
          obtain ⟨lb, y1, z, s, rfl, htap, hzr, hbx, hli, hy1, hz, hsz, hrw⟩ := hJ
          have n8 : D 8 = false := hClo.no 8 rfl (k := 7) (by decide) hk0
          have n11 : D 11 = false := hClo.no 11 rfl (k := 7) (by decide) hk0
          have n12 : D 12 = false := hClo.no 12 rfl (k := 7) (by decide) hk0
          have n13 : D 13 = false := hClo.no 13 rfl (k := 7) (by decide) hk0
          have n9 : D 9 = false := hClo.no 9 rfl (k := 8) (by decide) n8
          have n10 : D 10 = false := hClo.no 10 rfl (k := 9) (by decide) n9
          clear hClo hd
          simp only [upd, Act.put, List.setIfInBounds_toArray, List.set_cons_zero, List.set_cons_succ]
          go_wp2_with fail
          refine hK _ _ ⟨lb, y1, z, s, ?_, ?_, ?_, ?_, ?_, ?_, ?_, ?_, ?_⟩
          · clear hK
            simp [upd, Act.put, also, *]
          · exact (htap).of_eq (by simp [also, *])
          · exact hzr
          · exact hbx
          · exact fun h => (hli (by simpa [also] using h))
          · exact fun h => (hy1 (by simpa [also] using h))
          · exact fun h => by simp [also, *] at h
          · exact fun h => by simp [also, *] at h
          · exact (hrw).of_eq (by simp [also, *])
        · intro D a w' K hClo hk0 hd hJ hK
          change D 8 = false at hk0
          obtain ⟨lb, y1, z, s, rfl, htap, hzr, hbx, hli, hy1, hz, hsz, hrw⟩ := hJ
          have e3 : D 3 = true := hd 3 (by decide)
          have e7 : D 7 = true := hd 7 (by decide)
          have n9 : D 9 = false := hClo.no 9 rfl (k := 8) (by decide) hk0
          have n11 : D 11 = false := hClo.no 11 rfl (k := 8) (by decide) hk0
          have n12 : D 12 = false := hClo.no 12 rfl (k := 8) (by decide) hk0
          have n13 : D 13 = false := hClo.no 13 rfl (k := 8) (by decide) hk0
          have n10 : D 10 = false := hClo.no 10 rfl (k := 9) (by decide) n9
          clear hClo hd
          have ht0 := (show Tap wz w' B g (j + 7 + 1) from htap.of_eq (by simp [hk0, e3]))
          simp only [upd, Act.put, List.setIfInBounds_toArray, List.set_cons_zero, List.set_cons_succ, e3, e7]
          go_wp2_with fail
          with_reducible refine (next_any g _ B 5 _ ht0.tape (by omega) (by omega) (by omega)).mono ?_
          rintro e w2 ⟨zz, rfl, z0, z1, ht2, hg2⟩
          obtain ⟨zz, rfl⟩ := Int.eq_ofNat_of_zero_le z0
          go_wp2_with fail
          refine hK _ _ ⟨lb, y1, zz, s, ?_, ?_, ?_, ?_, ?_, ?_, ?_, ?_, ?_⟩
          · clear hK
            simp [upd, Act.put, also, *]
          · exact (ht0.next hg2 ht2).of_eq (by simp [also, *])
          · exact hzr.grown hg2 ht0.lt
          · exact hbx.grown hg2 ht0.lt
          · exact fun h => (hli (by simpa [also] using h)).grown hg2 ht0.lt
          · exact fun h => (hy1 (by simpa [also] using h))
          · exact fun _ => by omega
          · exact fun h => by simp [also, *] at h
          · exact (hrw.grown hg2 ht0.lt).of_eq (by simp [also, *])
        · intro D a w' K hClo hk0 hd hJ hK
          change D 9 = false at hk0
          obtain ⟨lb, y1, z, s, rfl, htap, hzr, hbx, hli, hy1, hz, hsz, hrw⟩ := hJ
          have e6 : D 6 = true := hd 6 (by decide)
          have e8 : D 8 = true := hd 8 (by decide)
          have n10 : D 10 = false := hClo.no 10 rfl (k := 9) (by decide) hk0
          have n11 : D 11 = false := hClo.no 11 rfl (k := 9) (by decide) hk0
          have n12 : D 12 = false := hClo.no 12 rfl (k := 9) (by decide) hk0
          have n13 : D 13 = false := hClo.no 13 rfl (k := 9) (by decide) hk0
          clear hClo hd
          have hx2 := hz e8
          have hx1 : (z : Int) < 5 := by omega
          simp only [upd, Act.put, List.setIfInBounds_toArray, List.set_cons_zero, List.set_cons_succ, e6, e8]
          go_wp2_with fail
          refine hK _ _ ⟨lb, y1, z, s, ?_, ?_, ?_, ?_, ?_, ?_, ?_, ?_, ?_⟩
          · clear hK
            simp [upd, Act.put, also, *]
          · exact (htap).of_eq (by simp [also, *])
          · exact hzr
          · exact hbx
          · exact fun h => (hli (by simpa [also] using h))
          · exact fun h => (hy1 (by simpa [also] using h))
          · exact fun h => (hz (by simpa [also] using h))
          · exact fun h => by simp [also, *] at h
          · exact (hrw).of_eq (by simp [also, *])
        · intro D a w' K hClo hk0 hd hJ hK
          change D 10 = false at hk0
          obtain ⟨lb, y1, z, s, rfl, htap, hzr, hbx, hli, hy1, hz, hsz, hrw⟩ := hJ
          have e9 : D 9 = true := hd 9 (by decide)
          have n11 : D 11 = false := hClo.no 11 rfl (k := 10) (by decide) hk0
          have n12 : D 12 = false := hClo.no 12 rfl (k := 10) (by decide) hk0
          have n13 : D 13 = false := hClo.no 13 rfl (k := 10) (by decide) hk0
          have q6_9 : D 6 = true := (hClo 9 _ rfl e9 6 (by decide))
          have q8_9 : D 8 = true := (hClo 9 _ rfl e9 8 (by decide))
          clear hClo hd
          have hx2 := hz q8_9
          obtain ⟨s2, hs2, hsz2⟩ : ∃ s2 : ByteArray, (#[.string ⟨#[]⟩, .string ⟨#[112, 111, 119, 101, 114]⟩, .string ⟨#[99, 111, 108, 111, 117, 114]⟩, .string ⟨#[88]⟩, .string ((⟨#[97, 98, 99, 100, 101, 102, 103, 104, 105, 106, 107, 108, 109, 110, 111, 112, 113, 114, 115, 116, 117, 118, 119, 120, 121, 122]⟩ : ByteArray).extract 0 25)] : Array Value)[z]? = some (.string s2) ∧ s2.size ≤ 30 := by
            obtain rfl | rfl | rfl | rfl | rfl : z = 0 ∨ z = 1 ∨ z = 2 ∨ z = 3 ∨ z = 4 := by omega
            all_goals exact ⟨_, rfl, by decide⟩
          have hc := ((hli q6_9).cell z).trans hs2
          clear hs2
          simp only [upd, Act.put, List.setIfInBounds_toArray, List.set_cons_zero, List.set_cons_succ, e9]
          go_wp2_with fail
          refine hK _ _ ⟨lb, y1, z, s2, ?_, ?_, ?_, ?_, ?_, ?_, ?_, ?_, ?_⟩
          · clear hK
            simp [upd, Act.put, also, *]
          · exact (htap).of_eq (by simp [also, *])
          · exact hzr
          · exact hbx
          · exact fun h => (hli (by simpa [also] using h))
          · exact fun h => (hy1 (by simpa [also] using h))
          · exact fun h => (hz (by simpa [also] using h))
          · exact fun _ => hsz2
          · exact (hrw).of_eq (by simp [also, *])
        · intro D a w' K hClo hk0 hd hJ hK
          change D 11 = false at hk0
          obtain ⟨lb, y1, z, s, rfl, htap, hzr, hbx, hli, hy1, hz, hsz, hrw⟩ := hJ
          have e0 : D 0 = true := hd 0 (by decide)
          have e1 : D 1 = true := hd 1 (by decide)
          have e2 : D 2 = true := hd 2 (by decide)
          have e3 : D 3 = true := hd 3 (by decide)
          have e4 : D 4 = true := hd 4 (by decide)
          have e5 : D 5 = true := hd 5 (by decide)
          have e6 : D 6 = true := hd 6 (by decide)
          have e7 : D 7 = true := hd 7 (by decide)
          have e8 : D 8 = true := hd 8 (by decide)
          have e9 : D 9 = true := hd 9 (by decide)
          have e10 : D 10 = true := hd 10 (by decide)
          have n12 : D 12 = false := hClo.no 12 rfl (k := 11) (by decide) hk0
          have n13 : D 13 = false := hClo.no 13 rfl (k := 12) (by decide) n12
          clear hClo hd
          have hx2 := hy1 e3
          have hx1 : (y1 : Int) < 2 := by omega
          simp only [upd, Act.put, List.setIfInBounds_toArray, List.set_cons_zero, List.set_cons_succ, e0, e1, e2, e3, e4, e5, e6, e7, e8, e9, e10]
          go_wp2_with fail
          refine hK _ _ ⟨lb, y1, z, s, ?_, ?_, ?_, ?_, ?_, ?_, ?_, ?_, ?_⟩
          · clear hK
            simp [upd, Act.put, also, *]
          · exact (htap).of_eq (by simp [also, *])
          · exact hzr
          · exact hbx
          · exact fun h => (hli (by simpa [also] using h))
          · exact fun h => (hy1 (by simpa [also] using h))
          · exact fun h => (hz (by simpa [also] using h))
          · exact fun h => (hsz (by simpa [also] using h))
          · exact (hrw).of_eq (by simp [also, *])
        · intro D a w' K hClo hk0 hd hJ hK
          change D 12 = false at hk0
          obtain ⟨lb, y1, z, s, rfl, htap, hzr, hbx, hli, hy1, hz, hsz, hrw⟩ := hJ
          have e0 : D 0 = true := hd 0 (by decide)
          have e1 : D 1 = true := hd 1 (by decide)
          have e2 : D 2 = true := hd 2 (by decide)
          have e3 : D 3 = true := hd 3 (by decide)
          have e4 : D 4 = true := hd 4 (by decide)
          have e5 : D 5 = true := hd 5 (by decide)
          have e6 : D 6 = true := hd 6 (by decide)
          have e7 : D 7 = true := hd 7 (by decide)
          have e8 : D 8 = true := hd 8 (by decide)
          have e9 : D 9 = true := hd 9 (by decide)
          have e10 : D 10 = true := hd 10 (by decide)
          have e11 : D 11 = true := hd 11 (by decide)
          have n13 : D 13 = false := hClo.no 13 rfl (k := 12) (by decide) hk0
          clear hClo hd
          simp only [upd, Act.put, List.setIfInBounds_toArray, List.set_cons_zero, List.set_cons_succ, e0, e1, e2, e3, e4, e5, e6, e7, e8, e9, e10, e11]
          go_wp2_with fail
          refine hK _ _ ⟨lb, y1, z, s, ?_, ?_, ?_, ?_, ?_, ?_, ?_, ?_, ?_⟩
          · clear hK
            simp [upd, Act.put, also, *]
          · exact (htap).of_eq (by simp [also, *])
          · exact hzr
          · exact hbx
          · exact fun h => (hli (by simpa [also] using h))
          · exact fun h => (hy1 (by simpa [also] using h))
          · exact fun h => (hz (by simpa [also] using h))
          · exact fun h => (hsz (by simpa [also] using h))
          · exact (hrw).of_eq (by simp [also, *])
        · intro D a w' K hClo hk0 hd hJ hK
          change D 13 = false at hk0
          obtain ⟨lb, y1, z, s, rfl, htap, hzr, hbx, hli, hy1, hz, hsz, hrw⟩ := hJ
          have e0 : D 0 = true := hd 0 (by decide)
          have e1 : D 1 = true := hd 1 (by decide)
          have e2 : D 2 = true := hd 2 (by decide)
          have e3 : D 3 = true := hd 3 (by decide)
          have e4 : D 4 = true := hd 4 (by decide)
          have e5 : D 5 = true := hd 5 (by decide)
          have e6 : D 6 = true := hd 6 (by decide)
          have e7 : D 7 = true := hd 7 (by decide)
          have e8 : D 8 = true := hd 8 (by decide)
          have e9 : D 9 = true := hd 9 (by decide)
          have e10 : D 10 = true := hd 10 (by decide)
          have e12 : D 12 = true := hd 12 (by decide)
          have q3_12 : D 3 = true := (hClo 12 _ rfl e12 3 (by decide))
          have q6_10 : D 6 = true := (hClo 9 _ rfl (hClo 10 _ rfl e10 9 (by decide)) 6 (by decide))
          clear hClo hd
          have hrw1 : RowH wz w' b L := hrw.of_eq (by rw [hk0]; rfl)
          have hx2 := hy1 q3_12
          have hr0 : L[y1]? = some (L[y1]'(by omega)) := List.getElem?_eq_getElem _
          have hge := hrw1.ge
          have hne := hrw1.row.ne_ (hli q6_10).blk (by decide)
          have hnx := hrw1.row.ne_ hbx.blk (by decide)
          have hnz := hrw1.row.ne_ hzr.blk (by decide)
          have c0 := (hrw1.row.cell y1 _ hr0).1
          have f0 := hrw1.row.free (y1 * 2)
          have Hrw := hide hrw1
          have HR0 := hide hr0
          clear hrw1 hrw hr0
          simp only [upd, Act.put, List.setIfInBounds_toArray, List.set_cons_zero, List.set_cons_succ, e0, e1, e2, e3, e4, e5, e6, e7, e8, e9, e10, e12]
          go_wp2_with fail
          refine hK _ _ ⟨lb, y1, z, s, ?_, ?_, ?_, ?_, ?_, ?_, ?_, ?_, ?_⟩
          · clear hK
            simp [upd, Act.put, also, *]
          · exact (htap.far hge _).of_eq (by simp [also, *])
          · exact hzr.far hnz _
          · exact hbx.far hnx _
          · exact fun _ => (hli (by simp [*])).far hne _
          · exact fun h => (hy1 (by simpa [also] using h))
          · exact fun h => (hz (by simpa [also] using h))
          · exact fun h => (hsz (by simpa [also] using h))
          · exact (Hrw.out.nameAt HR0.out _).of_eq (by simp [also])
      · intro D a' w5 hall hJ
        obtain ⟨lb, y1, z, s, rfl, htap, hzr, hbx, hli, hy1, hz, hsz, hrw⟩ := hJ
        have e0 : D 0 = true := hall 0 (by decide)
        have e1 : D 1 = true := hall 1 (by decide)
        have e2 : D 2 = true := hall 2 (by decide)
        have e3 : D 3 = true := hall 3 (by decide)
        have e4 : D 4 = true := hall 4 (by decide)
        have e5 : D 5 = true := hall 5 (by decide)
        have e6 : D 6 = true := hall 6 (by decide)
        have e7 : D 7 = true := hall 7 (by decide)
        have e8 : D 8 = true := hall 8 (by decide)
        have e9 : D 9 = true := hall 9 (by decide)
        have e10 : D 10 = true := hall 10 (by decide)
        have e11 : D 11 = true := hall 11 (by decide)
        have e12 : D 12 = true := hall 12 (by decide)
        have e13 : D 13 = true := hall 13 (by decide)
        clear hall
        replace htap : Tap wz w5 B g (j + 9) := htap.of_eq (by simp [*])
        replace hli := hli e6
        replace hy1 := hy1 e3
        replace hz := hz e8
        replace hsz := hsz e10
        replace hrw : RowH wz w5 b (nameAt L y1 s) := hrw.of_eq (by simp [*])
        simp only [upd, Act.put, List.setIfInBounds_toArray, List.set_cons_zero, List.set_cons_succ, sel_true, e0, e1, e2, e3, e4, e5, e6, e7, e8, e9, e10, e11, e12]
        clear e0 e1 e2 e3 e4 e5 e6 e7 e8 e9 e10 e11 e12 e13
        go_wp2_with fail
        go_meet
        exact spo_mk (p := ⟨id, cd, br, d, m, am⟩) hbx rfl hrw (by rw [nameAt_len]; exact hLl) (nameAt_short HLs.out hsz) ⟨hcs, hbs⟩ htap (by omega) hzr
    · go_upto_region 15 with (fail)
      refine wp_region_each (fun a0 D a w => ∃ (lb : Nat) (y1 : Nat) (z : Nat) (s : ByteArray), a = upd a0 [(69, sel (D 0) (.pointer (some ⟨pb, 6, none⟩)) undef), (70, sel (D 1) (.slice (some ⟨b, 0, none⟩) 2 2) undef), (71, sel (D 2) (.pointer (some ⟨g, 0, none⟩)) undef), (72, sel (D 3) (.int .i64 (y1 : Int)) undef), (73, sel (D 4) (.string ⟨#[97, 98, 99, 100, 101, 102, 103, 104, 105, 106, 107, 108, 109, 110, 111, 112, 113, 114, 115, 116, 117, 118, 119, 120, 121, 122]⟩) undef), (74, sel (D 5) (.string ((⟨#[97, 98, 99, 100, 101, 102, 103, 104, 105, 106, 107, 108, 109, 110, 111, 112, 113, 114, 115, 116, 117, 118, 119, 120, 121, 122]⟩ : ByteArray).extract 0 25)) undef), (75, sel (D 6) (.string ⟨#[97, 98, 99, 100, 101, 102, 103, 104, 105, 106, 107, 108, 109, 110, 111, 112, 113, 114, 115, 116, 117, 118, 119, 120, 121, 122]⟩) undef), (76, sel (D 7) (.string ((⟨#[97, 98, 99, 100, 101, 102, 103, 104, 105, 106, 107, 108, 109, 110, 111, 112, 113, 114, 115, 116, 117, 118, 119, 120, 121, 122]⟩ : ByteArray).extract 0 24)) undef), (77, sel (D 8) (.slice (some ⟨lb, 0, none⟩) 5 5) undef), (78, sel (D 9) (.pointer (some ⟨g, 0, none⟩)) undef), (79, sel (D 10) (.int .i64 (z : Int)) undef), (80, sel (D 11) (.pointer (some ⟨lb, z, none⟩)) undef), (81, sel (D 12) (.string s) undef), (82, sel (D 13) (.pointer (some ⟨b, y1 * 2, none⟩)) undef), (83, sel (D 14) (.pointer (some ⟨b, y1 * 2 + 1, none⟩)) undef)] ∧ (Tap wz w B g (j + 7 + (D 3).toNat + (D 10).toNat)) ∧ (Has wz w wz.heap.size 50 #[.string ⟨#[]⟩, .string ⟨#[]⟩, .string ⟨#[]⟩, .int .i64 0, .int .i64 0, .int .i64 0, .slice none 0 0]) ∧ (Has wz w pb 50 #[.string id, .string cd, .string br, .int .i64 d, .int .i64 m, .int .i64 am, .slice (some ⟨b, 0, none⟩) 2 2]) ∧ (D 8 = true → Has wz w lb 9 #[.string ⟨#[]⟩, .string ⟨#[195, 169]⟩, .string ((⟨#[97, 98, 99, 100, 101, 102, 103, 104, 105, 106, 107, 108, 109, 110, 111, 112, 113, 114, 115, 116, 117, 118, 119, 120, 121, 122]⟩ : ByteArray).extract 0 25), .string ((⟨#[97, 98, 99, 100, 101, 102, 103, 104, 105, 106, 107, 108, 109, 110, 111, 112, 113, 114, 115, 116, 117, 118, 119, 120, 121, 122]⟩ : ByteArray).extract 0 24), .string ⟨#[97, 95, 98]⟩]) ∧ (D 3 = true → y1 < 2) ∧ (D 10 = true → z < 5) ∧ (D 12 = true → s.size ≤ 30) ∧ (RowH wz w b (bif D 15 then valueAt L y1 s else L))) (by kernel_rfl) (by kernel_rfl) ?_ ?_ ?_
      · refine ⟨0, 0, 0, ⟨#[]⟩, ?_, HTAP.out.drew, HZR.out.drew, HBX.out.drew, fun h => Bool.noConfusion h, fun h => Bool.noConfusion h, fun h => Bool.noConfusion h, fun h => Bool.noConfusion h, HRW.out.drew⟩
        simp [upd, Act.put]
      · refine ⟨?_, ?_, ?_, ?_, ?_, ?_, ?_, ?_, ?_, ?_, ?_, ?_, ?_, ?_, ?_, ?_, trivial⟩
        · intro D a w' K hClo hk0 hd hJ hK
          change D 0 = false at hk0
          obtain ⟨lb, y1, z, s, rfl, htap, hzr, hbx, hli, hy1, hz, hsz, hrw⟩ := hJ
          have n1 : D 1 = false := hClo.no 1 rfl (k := 0) (by decide) hk0
          have n13 : D 13 = false := hClo.no 13 rfl (k := 0) (by decide) hk0
          have n14 : D 14 = false := hClo.no 14 rfl (k := 0) (by decide) hk0
          have n15 : D 15 = false := hClo.no 15 rfl (k := 0) (by decide) hk0
          clear hClo hd
          simp only [upd, Act.put, List.setIfInBounds_toArray, List.set_cons_zero, List.set_cons_succ]
          go_wp2_with fail
          refine hK _ _ ⟨lb, y1, z, s, ?_, ?_, ?_, ?_, ?_, ?_, ?_, ?_, ?_⟩
          · clear hK
            simp [upd, Act.put, also, *]
          · exact (htap).of_eq (by simp [also, *])
          · exact hzr
          · exact hbx
          · exact fun h => (hli (by simpa [also] using h))
          · exact fun h => (hy1 (by simpa [also] using h))
          · exact fun h => (hz (by simpa [also] using h))
          · exact fun h => (hsz (by simpa [also] using h))
          · exact (hrw).of_eq (by simp [also, *])
        · intro D a w' K hClo hk0 hd hJ hK
          change D 1 = false at hk0
          obtain ⟨lb, y1, z, s, rfl, htap, hzr, hbx, hli, hy1, hz, hsz, hrw⟩ := hJ
          have e0 : D 0 = true := hd 0 (by decide)
          have n13 : D 13 = false := hClo.no 13 rfl (k := 1) (by decide) hk0
          have n14 : D 14 = false := hClo.no 14 rfl (k := 1) (by decide) hk0
          have n15 : D 15 = false := hClo.no 15 rfl (k := 1) (by decide) hk0
          clear hClo hd
          have c6 := hbx.cell 6
          simp only [List.getElem?_toArray, List.getElem?_cons_zero, List.getElem?_cons_succ] at c6
          simp only [upd, Act.put, List.setIfInBounds_toArray, List.set_cons_zero, List.set_cons_succ, e0]
          go_wp2_with fail
          refine hK _ _ ⟨lb, y1, z, s, ?_, ?_, ?_, ?_, ?_, ?_, ?_, ?_, ?_⟩
          · clear hK
            simp [upd, Act.put, also, *]
          · exact (htap).of_eq (by simp [also, *])
          · exact hzr
          · exact hbx
          · exact fun h => (hli (by simpa [also] using h))
          · exact fun h => (hy1 (by simpa [also] using h))
          · exact fun h => (hz (by simpa [also] using h))
          · exact fun h => (hsz (by simpa [also] using h))
          · exact (hrw).of_eq (by simp [also, *])
        · intro D a w' K hClo hk0 hd hJ hK
          change D 2 = false at hk0
          obtain ⟨lb, y1, z, s, rfl, htap, hzr, hbx, hli, hy1, hz, hsz, hrw⟩ := hJ
          have n3 : D 3 = false := hClo.no 3 rfl (k := 2) (by decide) hk0
          have n13 : D 13 = false := hClo.no 13 rfl (k := 2) (by decide) hk0
          have n14 : D 14 = false := hClo.no 14 rfl (k := 2) (by decide) hk0
          have n15 : D 15 = false := hClo.no 15 rfl (k := 2) (by decide) hk0
          have n10 : D 10 = false := hClo.no 10 rfl (k := 3) (by decide) n3
          have n11 : D 11 = false := hClo.no 11 rfl (k := 10) (by decide) n10
          have n12 : D 12 = false := hClo.no 12 rfl (k := 11) (by decide) n11
          clear hClo hd
          simp only [upd, Act.put, List.setIfInBounds_toArray, List.set_cons_zero, List.set_cons_succ]
          go_wp2_with fail
          refine hK _ _ ⟨lb, y1, z, s, ?_, ?_, ?_, ?_, ?_, ?_, ?_, ?_, ?_⟩
          · clear hK
            simp [upd, Act.put, also, *]
          · exact (htap).of_eq (by simp [also, *])
          · exact hzr
          · exact hbx
          · exact fun h => (hli (by simpa [also] using h))
          · exact fun h => by simp [also, *] at h
          · exact fun h => by simp [also, *] at h
          · exact fun h => by simp [also, *] at h
          · exact (hrw).of_eq (by simp [also, *])
        · intro D a w' K hClo hk0 hd hJ hK
          change D 3 = false at hk0
          obtain ⟨lb, y1, z, s, rfl, htap, hzr, hbx, hli, hy1, hz, hsz, hrw⟩ := hJ
          have e2 : D 2 = true := hd 2 (by decide)
          have n10 : D 10 = false := hClo.no 10 rfl (k := 3) (by decide) hk0
          have n13 : D 13 = false := hClo.no 13 rfl (k := 3) (by decide) hk0
          have n14 : D 14 = false := hClo.no 14 rfl (k := 3) (by decide) hk0
          have n15 : D 15 = false := hClo.no 15 rfl (k := 3) (by decide) hk0
          have n11 : D 11 = false := hClo.no 11 rfl (k := 10) (by decide) n10
          have n12 : D 12 = false := hClo.no 12 rfl (k := 11) (by decide) n11
          clear hClo hd
          have ht0 := (show Tap wz w' B g (j + 7) from htap.of_eq (by simp [hk0, n10]))
          simp only [upd, Act.put, List.setIfInBounds_toArray, List.set_cons_zero, List.set_cons_succ, e2]
          go_wp2_with fail
          with_reducible refine (next_any g _ B 2 _ ht0.tape (by omega) (by omega) (by omega)).mono ?_
          rintro e w2 ⟨zz, rfl, z0, z1, ht2, hg2⟩
          obtain ⟨zz, rfl⟩ := Int.eq_ofNat_of_zero_le z0
          go_wp2_with fail
          refine hK _ _ ⟨lb, zz, z, s, ?_, ?_, ?_, ?_, ?_, ?_, ?_, ?_, ?_⟩
          · clear hK
            simp [upd, Act.put, also, *]
          · exact (ht0.next hg2 ht2).of_eq (by simp [also, *])
          · exact hzr.grown hg2 ht0.lt
          · exact hbx.grown hg2 ht0.lt
          · exact fun h => (hli (by simpa [also] using h)).grown hg2 ht0.lt
          · exact fun _ => by omega
          · exact fun h => by simp [also, *] at h
          · exact fun h => by simp [also, *] at h
          · exact (hrw.grown hg2 ht0.lt).of_eq (by simp [also, *])
        · intro D a w' K hClo hk0 hd hJ hK
          change D 4 = false at hk0
          obtain ⟨lb, y1, z, s, rfl, htap, hzr, hbx, hli, hy1, hz, hsz, hrw⟩ := hJ
          have n5 : D 5 = false := hClo.no 5 rfl (k := 4) (by decide) hk0
          have n13 : D 13 = false := hClo.no 13 rfl (k := 4) (by decide) hk0
          have n14 : D 14 = false := hClo.no 14 rfl (k := 4) (by decide) hk0
          have n15 : D 15 = false := hClo.no 15 rfl (k := 4) (by decide) hk0
          have n8 : D 8 = false := hClo.no 8 rfl (k := 5) (by decide) n5
          have n11 : D 11 = false := hClo.no 11 rfl (k := 8) (by decide) n8
          have n12 : D 12 = false := hClo.no 12 rfl (k := 11) (by decide) n11
          clear hClo hd
          simp only [upd, Act.put, List.setIfInBounds_toArray, List.set_cons_zero, List.set_cons_succ]
          go_wp2_with fail
          refine hK _ _ ⟨lb, y1, z, s, ?_, ?_, ?_, ?_, ?_, ?_, ?_, ?_, ?_⟩
          · clear hK
            simp [upd, Act.put, also, *]
          · exact (htap).of_eq (by simp [also, *])
          · exact hzr
          · exact hbx
          · exact fun h => by simp [also, *] at h
          · exact fun h => (hy1 (by simpa [also] using h))
          · exact fun h => (hz (by simpa [also] using h))
          · exact fun h => by simp [also, *] at h
          · exact (hrw).of_eq (by simp [also, *])
        · intro D a w' K hClo hk0 hd hJ hK
          change D 5 = false at hk0
          obtain ⟨lb, y1, z, s, rfl, htap, hzr, hbx, hli, hy1, hz, hsz, hrw⟩ := hJ
          have e4 : D 4 = true := hd 4 (by decide)
          have n8 : D 8 = false := hClo.no 8 rfl (k := 5) (by decide) hk0
          have n13 : D 13 = false := hClo.no 13 rfl (k := 5) (by decide) hk0
          have n14 : D 14 = false := hClo.no 14 rfl (k := 5) (by decide) hk0
          have n15 : D 15 = false := hClo.no 15 rfl (k := 5) (by decide) hk0
          have n11 : D 11 = false := hClo.no 11 rfl (k := 8) (by decide) n8
          have n12 : D 12 = false := hClo.no 12 rfl (k := 11) (by decide) n11
          clear hClo hd
          simp only [upd, Act.put, List.setIfInBounds_toArray, List.set_cons_zero, List.set_cons_succ, e4]
          go_wp2_with fail
          refine hK _ _ ⟨lb, y1, z, s, ?_, ?_, ?_, ?_, ?_, ?_, ?_, ?_, ?_⟩
          · clear hK
            simp [upd, Act.put, also, *]
          · exact (htap).of_eq (by simp [also, *])
          · exact hzr
          · exact hbx
          · exact fun h => by simp [also, *] at h
          · exact fun h => (hy1 (by simpa [also] using h))
          · exact fun h => (hz (by simpa [also] using h))
          · exact fun h => by simp [also, *] at h
          · exact (hrw).of_eq (by simp [also, *])
        · intro D a w' K hClo hk0 hd hJ hK
          change D 6 = false at hk0
          obtain ⟨lb, y1, z, s, rfl, htap, hzr, hbx, hli, hy1, hz, hsz, hrw⟩ := hJ
          have n7 : D 7 = false := hClo.no 7 rfl (k := 6) (by decide) hk0
          have n13 : D 13 = false := hClo.no 13 rfl (k := 6) (by decide) hk0
          have n14 : D 14 = false := hClo.no 14 rfl (k := 6) (by decide) hk0
          have n15 : D 15 = false := hClo.no 15 rfl (k := 6) (by decide) hk0
          have n8 : D 8 = false := hClo.no 8 rfl (k := 7) (by decide) n7
          have n11 : D 11 = false := hClo.no 11 rfl (k := 8) (by decide) n8
          have n12 : D 12 = false := hClo.no 12 rfl (k := 11) (by decide) n11
          clear hClo hd
          simp only [upd, Act.put, List.setIfInBounds_toArray, List.set_cons_zero, List.set_cons_succ]
          go_wp2_with fail
          refine hK _ _ ⟨lb, y1, z, s, ?_, ?_, ?_, ?_, ?_, ?_, ?_, ?_, ?_⟩
          · clear hK
            simp [upd, Act.put, also, *]
          · exact (htap).of_eq (by simp [also, *])
          · exact hzr
          · exact hbx
          · exact fun h => by simp [also, *] at h
          · exact fun h => (hy1 (by simpa [also] using h))
          · exact fun h => (hz (by simpa [also] using h))
          · exact fun h => by simp [also, *] at h
          · exact (hrw).of_eq (by simp [also, *])
        · intro D a w' K hClo hk0 hd hJ hK
          change D 7 = false at hk0
          obtain ⟨lb, y1, z, s, rfl, htap, hzr, hbx, hli, hy1, hz, hsz, hrw⟩ := hJ
          have e6 : D 6 = true := hd 6 (by decide)
          have n8 : D 8 = false := hClo.no 8 rfl (k := 7) (by decide) hk0
          have n13 : D 13 = false := hClo.no 13 rfl (k := 7) (by decide) hk0
          have n14 : D 14 = false := hClo.no 14 rfl (k := 7) (by decide) hk0
          have n15 : D 15 = false := hClo.no 15 rfl (k := 7) (by decide) hk0
          have n11 : D 11 = false := hClo.no 11 rfl (k := 8) (by decide) n8
          have n12 : D 12 = false := hClo.no 12 rfl (k := 11) (by decide) n11
          clear hClo hd
          simp only [upd, Act.put, List.setIfInBounds_toArray, List.set_cons_zero, List.set_cons_succ, e6]
          go_wp2_with fail
          refine hK _ _ ⟨lb, y1, z, s, ?_, ?_, ?_, ?_, ?_, ?_, ?_, ?_, ?_⟩
          · clear hK
            simp [upd, Act.put, also, *]
          · exact (htap).of_eq (by simp [also, *])
          · exact hzr
          · exact hbx
          · exact fun h => by simp [also, *] at h
          · exact fun h => (hy1 (by simpa [also] using h))
          · exact fun h => (hz (by simpa [also] using h))
          · exact fun h => by simp [also, *] at h
          · exact (hrw).of_eq (by simp [also, *])
        · intro D a w' K hClo hk0 hd hJ hK
          change D 8 = false at hk0
          obtain ⟨lb, y1, z, s, rfl, htap, hzr, hbx, hli, hy1, hz, hsz, hrw⟩ := hJ
          have e5 : D 5 = true := hd 5 (by decide)
          have e7 : D 7 = true := hd 7 (by decide)
          have n11 : D 11 = false := hClo.no 11 rfl (k := 8) (by decide) hk0
          have n13 : D 13 = false := hClo.no 13 rfl (k := 8) (by decide) hk0
          have n14 : D 14 = false := hClo.no 14 rfl (k := 8) (by decide) hk0
          have n15 : D 15 = false := hClo.no 15 rfl (k := 8) (by decide) hk0
          have n12 : D 12 = false := hClo.no 12 rfl (k := 11) (by decide) n11
          clear hClo hd
          simp only [upd, Act.put, List.setIfInBounds_toArray, List.set_cons_zero, List.set_cons_succ, e5, e7]
          go_wp2_with fail
          refine hK _ _ ⟨w'.heap.size, y1, z, s, ?_, ?_, ?_, ?_, ?_, ?_, ?_, ?_, ?_⟩
          · clear hK
            simp [upd, Act.put, also, *]
          · exact (htap.alloc _).of_eq (by simp [also, *])
          · exact hzr.alloc _
          · exact hbx.alloc _
          · exact fun _ => Has.new htap.size 9 _
          · exact fun h => (hy1 (by simpa [also] using h))
          · exact fun h => (hz (by simpa [also] using h))
          · exact fun h => by simp [also, *] at h
          · exact (hrw.alloc _).of_eq (by simp [also, *])
        · intro D a w' K hClo hk0 hd hJ hK
          change D 9 = false at hk0
          obtain ⟨lb, y1, z, s, rfl, htap, hzr, hbx, hli, hy1, hz, hsz, hrw⟩ := hJ
          have n10 : D 10 = false := hClo.no 10 rfl (k := 9) (by decide) hk0
          have n13 : D 13 = false := hClo.no 13 rfl (k := 9) (by decide) hk0
          have n14 : D 14 = false := hClo.no 14 rfl (k := 9) (by decide) hk0
          have n15 : D 15 = false := hClo.no 15 rfl (k := 9) (by decide) hk0
          have n11 : D 11 = false := hClo.no 11 rfl (k := 10) (by decide) n10
          have n12 : D 12 = false := hClo.no 12 rfl (k := 11) (by decide) n11
          clear hClo hd
          simp only [upd, Act.put, List.setIfInBounds_toArray, List.set_cons_zero, List.set_cons_succ]
          go_wp2_with fail
          refine hK _ _ ⟨lb, y1, z, s, ?_, ?_, ?_, ?_, ?_, ?_, ?_, ?_, ?_⟩
          · clear hK
            simp [upd, Act.put, also, *]
          · exact (htap).of_eq (by simp [also, *])
          · exact hzr
          · exact hbx
          · exact fun h => (hli (by simpa [also] using h))
          · exact fun h => (hy1 (by simpa [also] using h))
          · exact fun h => by simp [also, *] at h
          · exact fun h => by simp [also, *] at h
          · exact (hrw).of_eq (by simp [also, *])
        · intro D a w' K hClo hk0 hd hJ hK
          change D 10 = false at hk0
          obtain ⟨lb, y1, z, s, rfl, htap, hzr, hbx, hli, hy1, hz, hsz, hrw⟩ := hJ
          have e3 : D 3 = true := hd 3 (by decide)
          have e9 : D 9 = true := hd 9 (by decide)
          have n11 : D 11 = false := hClo.no 11 rfl (k := 10) (by decide) hk0
          have n13 : D 13 = false := hClo.no 13 rfl (k := 10) (by decide) hk0
          have n14 : D 14 = false := hClo.no 14 rfl (k := 10) (by decide) hk0
          have n15 : D 15 = false := hClo.no 15 rfl (k := 10) (by decide) hk0
          have n12 : D 12 = false := hClo.no 12 rfl (k := 11) (by decide) n11
          clear hClo hd
          have ht0 := (show Tap wz w' B g (j + 7 + 1) from htap.of_eq (by simp [hk0, e3]))
          simp only [upd, Act.put, List.setIfInBounds_toArray, List.set_cons_zero, List.set_cons_succ, e3, e9]
          go_wp2_with fail
          with_reducible refine (next_any g _ B 5 _ ht0.tape (by omega) (by omega) (by omega)).mono ?_
          rintro e w2 ⟨zz, rfl, z0, z1, ht2, hg2⟩
          obtain ⟨zz, rfl⟩ := Int.eq_ofNat_of_zero_le z0
          go_wp2_with fail
          refine hK _ _ ⟨lb, y1, zz, s, ?_, ?_, ?_, ?_, ?_, ?_, ?_, ?_, ?_⟩
          · clear hK
            simp [upd, Act.put, also, *]
          · exact (ht0.next hg2 ht2).of_eq (by simp [also, *])
          · exact hzr.grown hg2 ht0.lt
          · exact hbx.grown hg2 ht0.lt
          · exact fun h => (hli (by simpa [also] using h)).grown hg2 ht0.lt
          · exact fun h => (hy1 (by simpa [also] using h))
          · exact fun _ => by omega
          · exact fun h => by simp [also, *] at h
          · exact (hrw.grown hg2 ht0.lt).of_eq (by simp [also, *])
        · intro D a w' K hClo hk0 hd hJ hK
          change D 11 = false at hk0
          obtain ⟨lb, y1, z, s, rfl, htap, hzr, hbx, hli, hy1, hz, hsz, hrw⟩ := hJ
          have e8 : D 8 = true := hd 8 (by decide)
          have e10 : D 10 = true := hd 10 (by decide)
          have n12 : D 12 = false := hClo.no 12 rfl (k := 11) (by decide) hk0
          have n13 : D 13 = false := hClo.no 13 rfl (k := 11) (by decide) hk0
          have n14 : D 14 = false := hClo.no 14 rfl (k := 11) (by decide) hk0
          have n15 : D 15 = false := hClo.no 15 rfl (k := 11) (by decide) hk0
          clear hClo hd
          have hx2 := hz e10
          have hx1 : (z : Int) < 5 := by omega
          simp only [upd, Act.put, List.setIfInBounds_toArray, List.set_cons_zero, List.set_cons_succ, e8, e10]
          go_wp2_with fail
          refine hK _ _ ⟨lb, y1, z, s, ?_, ?_, ?_, ?_, ?_, ?_, ?_, ?_, ?_⟩
          · clear hK
            simp [upd, Act.put, also, *]
          · exact (htap).of_eq (by simp [also, *])
          · exact hzr
          · exact hbx
          · exact fun h => (hli (by simpa [also] using h))
          · exact fun h => (hy1 (by simpa [also] using h))
          · exact fun h => (hz (by simpa [also] using h))
          · exact fun h => by simp [also, *] at h
          · exact (hrw).of_eq (by simp [also, *])
        · intro D a w' K hClo hk0 hd hJ hK
          change D 12 = false at hk0
          obtain ⟨lb, y1, z, s, rfl, htap, hzr, hbx, hli, hy1, hz, hsz, hrw⟩ := hJ
          have e11 : D 11 = true := hd 11 (by decide)
          have n13 : D 13 = false := hClo.no 13 rfl (k := 12) (by decide) hk0
          have n14 : D 14 = false := hClo.no 14 rfl (k := 12) (by decide) hk0
          have n15 : D 15 = false := hClo.no 15 rfl (k := 12) (by decide) hk0
          have q10_11 : D 10 = true := (hClo 11 _ rfl e11 10 (by decide))
          have q8_11 : D 8 = true := (hClo 11 _ rfl e11 8 (by decide))
          clear hClo hd
          have hx2 := hz q10_11
          obtain ⟨s2, hs2, hsz2⟩ : ∃ s2 : ByteArray, (#[.string ⟨#[]⟩, .string ⟨#[195, 169]⟩, .string ((⟨#[97, 98, 99, 100, 101, 102, 103, 104, 105, 106, 107, 108, 109, 110, 111, 112, 113, 114, 115, 116, 117, 118, 119, 120, 121, 122]⟩ : ByteArray).extract 0 25), .string ((⟨#[97, 98, 99, 100, 101, 102, 103, 104, 105, 106, 107, 108, 109, 110, 111, 112, 113, 114, 115, 116, 117, 118, 119, 120, 121, 122]⟩ : ByteArray).extract 0 24), .string ⟨#[97, 95, 98]⟩] : Array Value)[z]? = some (.string s2) ∧ s2.size ≤ 30 := by
            obtain rfl | rfl | rfl | rfl | rfl : z = 0 ∨ z = 1 ∨ z = 2 ∨ z = 3 ∨ z = 4 := by omega
            all_goals exact ⟨_, rfl, by decide⟩
          have hc := ((hli q8_11).cell z).trans hs2
          clear hs2
          simp only [upd, Act.put, List.setIfInBounds_toArray, List.set_cons_zero, List.set_cons_succ, e11]
          go_wp2_with fail
          refine hK _ _ ⟨lb, y1, z, s2, ?_, ?_, ?_, ?_, ?_, ?_, ?_, ?_, ?_⟩
          · clear hK
            simp [upd, Act.put, also, *]
          · exact (htap).of_eq (by simp [also, *])
          · exact hzr
          · exact hbx
          · exact fun h => (hli (by simpa [also] using h))
          · exact fun h => (hy1 (by simpa [also] using h))
          · exact fun h => (hz (by simpa [also] using h))
          · exact fun _ => hsz2
          · exact (hrw).of_eq (by simp [also, *])
        · intro D a w' K hClo hk0 hd hJ hK
          change D 13 = false at hk0
          obtain ⟨lb, y1, z, s, rfl, htap, hzr, hbx, hli, hy1, hz, hsz, hrw⟩ := hJ
          have e0 : D 0 = true := hd 0 (by decide)
          have e1 : D 1 = true := hd 1 (by decide)
          have e2 : D 2 = true := hd 2 (by decide)
          have e3 : D 3 = true := hd 3 (by decide)
          have e4 : D 4 = true := hd 4 (by decide)
          have e5 : D 5 = true := hd 5 (by decide)
          have e6 : D 6 = true := hd 6 (by decide)
          have e7 : D 7 = true := hd 7 (by decide)
          have e8 : D 8 = true := hd 8 (by decide)
          have e9 : D 9 = true := hd 9 (by decide)
          have e10 : D 10 = true := hd 10 (by decide)
          have e11 : D 11 = true := hd 11 (by decide)
          have e12 : D 12 = true := hd 12 (by decide)
          have n14 : D 14 = false := hClo.no 14 rfl (k := 13) (by decide) hk0
          have n15 : D 15 = false := hClo.no 15 rfl (k := 14) (by decide) n14
          clear hClo hd
          have hx2 := hy1 e3
          have hx1 : (y1 : Int) < 2 := by omega
          simp only [upd, Act.put, List.setIfInBounds_toArray, List.set_cons_zero, List.set_cons_succ, e0, e1, e2, e3, e4, e5, e6, e7, e8, e9, e10, e11, e12]
          go_wp2_with fail
          refine hK _ _ ⟨lb, y1, z, s, ?_, ?_, ?_, ?_, ?_, ?_, ?_, ?_, ?_⟩
          · clear hK
            simp [upd, Act.put, also, *]
          · exact (htap).of_eq (by simp [also, *])
          · exact hzr
          · exact hbx
          · exact fun h => (hli (by simpa [also] using h))
          · exact fun h => (hy1 (by simpa [also] using h))
          · exact fun h => (hz (by simpa [also] using h))
          · exact fun h => (hsz (by simpa [also] using h))
          · exact (hrw).of_eq (by simp [also, *])
        · intro D a w' K hClo hk0 hd hJ hK
          change D 14 = false at hk0
          obtain ⟨lb, y1, z, s, rfl, htap, hzr, hbx, hli, hy1, hz, hsz, hrw⟩ := hJ
          have e0 : D 0 = true := hd 0 (by decide)
          have e1 : D 1 = true := hd 1 (by decide)
          have e2 : D 2 = true := hd 2 (by decide)
          have e3 : D 3 = true := hd 3 (by decide)
          have e4 : D 4 = true := hd 4 (by decide)
          have e5 : D 5 = true := hd 5 (by decide)
          have e6 : D 6 = true := hd 6 (by decide)
          have e7 : D 7 = true := hd 7 (by decide)
          have e8 : D 8 = true := hd 8 (by decide)
          have e9 : D 9 = true := hd 9 (by decide)
          have e10 : D 10 = true := hd 10 (by decide)
          have e11 : D 11 = true := hd 11 (by decide)
          have e12 : D 12 = true := hd 12 (by decide)
          have e13 : D 13 = true := hd 13 (by decide)
          have n15 : D 15 = false := hClo.no 15 rfl (k := 14) (by decide) hk0
          clear hClo hd
          simp only [upd, Act.put, List.setIfInBounds_toArray, List.set_cons_zero, List.set_cons_succ, e0, e1, e2, e3, e4, e5, e6, e7, e8, e9, e10, e11, e12, e13]
          go_wp2_with fail
          refine hK _ _ ⟨lb, y1, z, s, ?_, ?_, ?_, ?_, ?_, ?_, ?_, ?_, ?_⟩
          · clear hK
            simp [upd, Act.put, also, *]
          · exact (htap).of_eq (by simp [also, *])
          · exact hzr
          · exact hbx
          · exact fun h => (hli (by simpa [also] using h))
          · exact fun h => (hy1 (by simpa [also] using h))
          · exact fun h => (hz (by simpa [also] using h))
          · exact fun h => (hsz (by simpa [also] using h))
          · exact (hrw).of_eq (by simp [also, *])
        · intro D a w' K hClo hk0 hd hJ hK
          change D 15 = false at hk0
          obtain ⟨lb, y1, z, s, rfl, htap, hzr, hbx, hli, hy1, hz, hsz, hrw⟩ := hJ
          have e0 : D 0 = true := hd 0 (by decide)
          have e1 : D 1 = true := hd 1 (by decide)
          have e2 : D 2 = true := hd 2 (by decide)
          have e3 : D 3 = true := hd 3 (by decide)
          have e4 : D 4 = true := hd 4 (by decide)
          have e5 : D 5 = true := hd 5 (by decide)
          have e6 : D 6 = true := hd 6 (by decide)
          have e7 : D 7 = true := hd 7 (by decide)
          have e8 : D 8 = true := hd 8 (by decide)
          have e9 : D 9 = true := hd 9 (by decide)
          have e10 : D 10 = true := hd 10 (by decide)
          have e11 : D 11 = true := hd 11 (by decide)
          have e12 : D 12 = true := hd 12 (by decide)
          have e14 : D 14 = true := hd 14 (by decide)
          have q3_14 : D 3 = true := (hClo 14 _ rfl e14 3 (by decide))
          have q8_12 : D 8 = true := (hClo 11 _ rfl (hClo 12 _ rfl e12 11 (by decide)) 8 (by decide))
          clear hClo hd
          have hrw1 : RowH wz w' b L := hrw.of_eq (by rw [hk0]; rfl)
          have hx2 := hy1 q3_14
          have hr0 : L[y1]? = some (L[y1]'(by omega)) := List.getElem?_eq_getElem _
          have hge := hrw1.ge
          have hne := hrw1.row.ne_ (hli q8_12).blk (by decide)
          have hnx := hrw1.row.ne_ hbx.blk (by decide)
          have hnz := hrw1.row.ne_ hzr.blk (by decide)
          have c1 := (hrw1.row.cell y1 _ hr0).2
          have f0 := hrw1.row.free (y1 * 2 + 1)
          have Hrw := hide hrw1
          have HR0 := hide hr0
          clear hrw1 hrw hr0
          simp only [upd, Act.put, List.setIfInBounds_toArray, List.set_cons_zero, List.set_cons_succ, e0, e1, e2, e3, e4, e5, e6, e7, e8, e9, e10, e11, e12, e14]
          go_wp2_with fail
          refine hK _ _ ⟨lb, y1, z, s, ?_, ?_, ?_, ?_, ?_, ?_, ?_, ?_, ?_⟩
          · clear hK
            simp [upd, Act.put, also, *]
          · exact (htap.far hge _).of_eq (by simp [also, *])
          · exact hzr.far hnz _
          · exact hbx.far hnx _
          · exact fun _ => (hli (by simp [*])).far hne _
          · exact fun h => (hy1 (by simpa [also] using h))
          · exact fun h => (hz (by simpa [also] using h))
          · exact fun h => (hsz (by simpa [also] using h))
          · exact (Hrw.out.valueAt HR0.out _).of_eq (by simp [also])
      · intro D a' w5 hall hJ
        obtain ⟨lb, y1, z, s, rfl, htap, hzr, hbx, hli, hy1, hz, hsz, hrw⟩ := hJ
        have e0 : D 0 = true := hall 0 (by decide)
        have e1 : D 1 = true := hall 1 (by decide)
        have e2 : D 2 = true := hall 2 (by decide)
        have e3 : D 3 = true := hall 3 (by decide)
        have e4 : D 4 = true := hall 4 (by decide)
        have e5 : D 5 = true := hall 5 (by decide)
        have e6 : D 6 = true := hall 6 (by decide)
        have e7 : D 7 = true := hall 7 (by decide)
        have e8 : D 8 = true := hall 8 (by decide)
        have e9 : D 9 = true := hall 9 (by decide)
        have e10 : D 10 = true := hall 10 (by decide)
        have e11 : D 11 = true := hall 11 (by decide)
        have e12 : D 12 = true := hall 12 (by decide)
        have e13 : D 13 = true := hall 13 (by decide)
        have e14 : D 14 = true := hall 14 (by decide)
        have e15 : D 15 = true := hall 15 (by decide)
        clear hall
        replace htap : Tap wz w5 B g (j + 9) := htap.of_eq (by simp [*])
        replace hli := hli e8
        replace hy1 := hy1 e3
        replace hz := hz e10
        replace hsz := hsz e12
        replace hrw : RowH wz w5 b (valueAt L y1 s) := hrw.of_eq (by simp [*])
        simp only [upd, Act.put, List.setIfInBounds_toArray, List.set_cons_zero, List.set_cons_succ, sel_true, e0, e1, e2, e3, e4, e5, e6, e7, e8, e9, e10, e11, e12, e13, e14]
        clear e0 e1 e2 e3 e4 e5 e6 e7 e8 e9 e10 e11 e12 e13 e14 e15
        go_wp2_with fail
        go_meet
        exact spo_mk (p := ⟨id, cd, br, d, m, am⟩) hbx rfl hrw (by rw [valueAt_len]; exact hLl) (valueAt_short HLs.out hsz) ⟨hcs, hbs⟩ htap (by omega) hzr
    · go_wp2_with fail
      with_reducible refine (next_any g (j + 7) B 4 _ HTAP.out.tape (by omega) (by omega) (by omega)).mono ?_
      rintro e w4 ⟨z, rfl, z0, z1, ht5, hg5⟩
      obtain ⟨z, rfl⟩ := Int.eq_ofNat_of_zero_le z0
      have htp5 := HTAP.out.next hg5 ht5
      have hzr5 := HZR.out.grown hg5 hlt
      have hbx5 := HBX.out.grown hg5 hlt
      have how5 : Owns w4 wz.heap.size 57 2 (.slice (some ⟨b, 0, none⟩) 2 2) 2 (L.flatMap lc) := ⟨own_far HOW.out.o hg5 hlt⟩
      have H1 := hide hbx5
      have H2 := hide hzr5
      have H3 := hide htp5
      have H4 := hide how5
      clear hbx5 hzr5 htp5 how5 ht5 hg5
      go_wp2
      go_loopw [89] (fun i wr => ∃ (k : Nat) (N : List Lk) (Av : Option Addr) (cv : Nat), k ≤ 9 + z ∧ i = .int .i64 k ∧ Hid (N.length = 2 + k) ∧ Hid (∀ r ∈ N, r.1.size ≤ 30 ∧ r.2.size ≤ 30) ∧ Hid (Owns wr wz.heap.size 57 2 (.slice Av (2 + k) cv) (2 + k) (N.flatMap lc)) ∧ Hid (Has wz wr pb 50 #[.string id, .string cd, .string br, .int .i64 d, .int .i64 m, .int .i64 am, .slice Av (2 + k) cv]) ∧ Hid (Has wz wr wz.heap.size 50 #[.string ⟨#[]⟩, .string ⟨#[]⟩, .string ⟨#[]⟩, .int .i64 0, .int .i64 0, .int .i64 0, .slice none 0 0]) ∧ Hid (Tap wz wr B g (j + 8))) (fun i _ => 9 + z - (intOf i).toNat)
      case atStart => exact ⟨0, L, some ⟨b, 0, none⟩, 2, Nat.zero_le _, rfl, hLl, HLs, H4.out, H1.out, H2.out, H3.out⟩
      case round =>
        obtain ⟨k, N, Av, cv, hk, rfl, HNl, HNs, HO, HK, HZ, HT⟩ := hrel
        by_cases hlt2 : k < 9 + z
        · have hk1 : (k : Int) < 9 + (z : Int) := by omega
          have hk2 : (k : Int) ≤ 11 := by omega
          have hk3 : (0 : Int) ≤ (k : Int) := by omega
          have hk4 : (k : Int) ≤ (k : Int) + 2 := by omega
          have hk5 : (k : Int) + 2 ≤ 26 := by omega
          have hk6 : (0 : Int) ≤ (k : Int) + 2 := by omega
          have hk7 : ((k : Int) + 2).toNat = k + 2 := by omega
          go_upto_region 20 with (fail)
          refine wp_region_each (fun a0 D a w => ∃ (lb : Nat) (A2 : Option Addr) (cv2 : Nat), a = upd a0 [(92, sel (D 0) (.pointer (some ⟨pb, 6, none⟩)) u92), (93, sel (D 1) (.slice Av (2 + k) cv) u93), (94, sel (D 2) (.string ⟨#[97, 98, 99, 100, 101, 102, 103, 104, 105, 106, 107, 108, 109, 110, 111, 112, 113, 114, 115, 116, 117, 118, 119, 120, 121, 122]⟩) u94), (95, sel (D 3) (.int .i64 (k : Int)) u95), (96, sel (D 4) (.int .i64 (k : Int)) u96), (97, sel (D 5) (.int .i64 ((k : Int) + 2)) u97), (98, sel (D 6) (.string ((⟨#[97, 98, 99, 100, 101, 102, 103, 104, 105, 106, 107, 108, 109, 110, 111, 112, 113, 114, 115, 116, 117, 118, 119, 120, 121, 122]⟩ : ByteArray).extract k (k + 2))) u98), (99, sel (D 7) (.agg #[.string ((⟨#[97, 98, 99, 100, 101, 102, 103, 104, 105, 106, 107, 108, 109, 110, 111, 112, 113, 114, 115, 116, 117, 118, 119, 120, 121, 122]⟩ : ByteArray).extract k (k + 2)), .string ⟨#[118]⟩]) u99), (100, sel (D 8) (.slice (some ⟨lb, 0, none⟩) 1 1) u100), (101, sel (D 9) (.slice A2 (2 + k + 1) cv2) u101), (102, sel (D 10) (.pointer (some ⟨pb, 6, none⟩)) u102)] ∧ (Tap wz w B g (j + 8)) ∧ (Has wz w wz.heap.size 50 #[.string ⟨#[]⟩, .string ⟨#[]⟩, .string ⟨#[]⟩, .int .i64 0, .int .i64 0, .int .i64 0, .slice none 0 0]) ∧ (D 9 = false → Owns w wz.heap.size 57 2 (.slice Av (2 + k) cv) (2 + k) (N.flatMap lc)) ∧ (D 8 = true → D 9 = false → Has wz w lb 57 #[.string ((⟨#[97, 98, 99, 100, 101, 102, 103, 104, 105, 106, 107, 108, 109, 110, 111, 112, 113, 114, 115, 116, 117, 118, 119, 120, 121, 122]⟩ : ByteArray).extract k (k + 2)), .string ⟨#[118]⟩]) ∧ (D 9 = true → Owns w wz.heap.size 57 2 (.slice A2 (2 + k + 1) cv2) (2 + k + 1) (N.flatMap lc ++ (#[.string ((⟨#[97, 98, 99, 100, 101, 102, 103, 104, 105, 106, 107, 108, 109, 110, 111, 112, 113, 114, 115, 116, 117, 118, 119, 120, 121, 122]⟩ : ByteArray).extract k (k + 2)), .string ⟨#[118]⟩] : Array Value).toList)) ∧ (Has wz w pb 50 (bif D 11 then #[.string id, .string cd, .string br, .int .i64 d, .int .i64 m, .int .i64 am, .slice A2 (2 + k + 1) cv2] else #[.string id, .string cd, .string br, .int .i64 d, .int .i64 m, .int .i64 am, .slice Av (2 + k) cv]))) (by kernel_rfl) (by kernel_rfl) ?_ ?_ ?_
          · refine ⟨0, none, 0, ?_, HT.out.drew, HZ.out.drew, fun _ => HO.out.drew, fun h => Bool.noConfusion h, fun h => Bool.noConfusion h, HK.out.drew⟩
            simp [upd, Act.put]
          · refine ⟨?_, ?_, ?_, ?_, ?_, ?_, ?_, ?_, ?_, ?_, ?_, ?_, trivial⟩
            · intro D a w' K hClo hk0 hd hJ hK
              change D 0 = false at hk0
              obtain ⟨lb, A2, cv2, rfl, htap, hzr, how, hli, hnw, hbx⟩ := hJ
              have n1 : D 1 = false := hClo.no 1 rfl (k := 0) (by decide) hk0
              have n10 : D 10 = false := hClo.no 10 rfl (k := 0) (by decide) hk0
              have n11 : D 11 = false := hClo.no 11 rfl (k := 0) (by decide) hk0
              have n9 : D 9 = false := hClo.no 9 rfl (k := 1) (by decide) n1
              clear hClo hd
              simp only [upd, Act.put, List.setIfInBounds_toArray, List.set_cons_zero, List.set_cons_succ]
              go_wp2_with fail
              refine hK _ _ ⟨lb, A2, cv2, ?_, ?_, ?_, ?_, ?_, ?_, ?_⟩
              · clear hK
                simp [upd, Act.put, also, *]
              · exact htap
              · exact hzr
              · exact fun h' => (how (by simpa [also] using h'))
              · exact fun h h' => (hli (by simpa [also] using h) (by simpa [also] using h'))
              · exact fun h => by simp [also, *] at h
              · exact (hbx).of_eq (by simp [also, *])
            · intro D a w' K hClo hk0 hd hJ hK
              change D 1 = false at hk0
              obtain ⟨lb, A2, cv2, rfl, htap, hzr, how, hli, hnw, hbx⟩ := hJ
              have e0 : D 0 = true := hd 0 (by decide)
              have n9 : D 9 = false := hClo.no 9 rfl (k := 1) (by decide) hk0
              have n10 : D 10 = false := hClo.no 10 rfl (k := 1) (by decide) hk0
              have n11 : D 11 = false := hClo.no 11 rfl (k := 1) (by decide) hk0
              clear hClo hd
              have hb1 : Has wz w' pb 50 #[.string id, .string cd, .string br, .int .i64 d, .int .i64 m, .int .i64 am, .slice Av (2 + k) cv] := hbx.of_eq (by rw [n11]; rfl)
              have y6 := hb1.cell 6
              simp only [List.getElem?_toArray, List.getElem?_cons_zero, List.getElem?_cons_succ] at y6
              simp only [upd, Act.put, List.setIfInBounds_toArray, List.set_cons_zero, List.set_cons_succ, e0]
              go_wp2_with fail
              refine hK _ _ ⟨lb, A2, cv2, ?_, ?_, ?_, ?_, ?_, ?_, ?_⟩
              · clear hK
                simp [upd, Act.put, also, *]
              · exact htap
              · exact hzr
              · exact fun h' => (how (by simpa [also] using h'))
              · exact fun h h' => (hli (by simpa [also] using h) (by simpa [also] using h'))
              · exact fun h => by simp [also, *] at h
              · exact (hbx).of_eq (by simp [also, *])
            · intro D a w' K hClo hk0 hd hJ hK
              change D 2 = false at hk0
              obtain ⟨lb, A2, cv2, rfl, htap, hzr, how, hli, hnw, hbx⟩ := hJ
              have n6 : D 6 = false := hClo.no 6 rfl (k := 2) (by decide) hk0
              have n10 : D 10 = false := hClo.no 10 rfl (k := 2) (by decide) hk0
              have n11 : D 11 = false := hClo.no 11 rfl (k := 2) (by decide) hk0
              have n7 : D 7 = false := hClo.no 7 rfl (k := 6) (by decide) n6
              have n8 : D 8 = false := hClo.no 8 rfl (k := 7) (by decide) n7
              have n9 : D 9 = false := hClo.no 9 rfl (k := 8) (by decide) n8
              clear hClo hd
              simp only [upd, Act.put, List.setIfInBounds_toArray, List.set_cons_zero, List.set_cons_succ]
              go_wp2_with fail
              refine hK _ _ ⟨lb, A2, cv2, ?_, ?_, ?_, ?_, ?_, ?_, ?_⟩
              · clear hK
                simp [upd, Act.put, also, *]
              · exact htap
              · exact hzr
              · exact fun h' => (how (by simpa [also] using h'))
              · exact fun h => by simp [also, *] at h
              · exact fun h => by simp [also, *] at h
              · exact (hbx).of_eq (by simp [also, *])
            · intro D a w' K hClo hk0 hd hJ hK
              change D 3 = false at hk0
              obtain ⟨lb, A2, cv2, rfl, htap, hzr, how, hli, hnw, hbx⟩ := hJ
              have n6 : D 6 = false := hClo.no 6 rfl (k := 3) (by decide) hk0
              have n10 : D 10 = false := hClo.no 10 rfl (k := 3) (by decide) hk0
              have n11 : D 11 = false := hClo.no 11 rfl (k := 3) (by decide) hk0
              have n7 : D 7 = false := hClo.no 7 rfl (k := 6) (by decide) n6
              have n8 : D 8 = false := hClo.no 8 rfl (k := 7) (by decide) n7
              have n9 : D 9 = false := hClo.no 9 rfl (k := 8) (by decide) n8
              clear hClo hd
              simp only [upd, Act.put, List.setIfInBounds_toArray, List.set_cons_zero, List.set_cons_succ]
              go_wp2_with fail
              refine hK _ _ ⟨lb, A2, cv2, ?_, ?_, ?_, ?_, ?_, ?_, ?_⟩
              · clear hK
                simp [upd, Act.put, also, *]
              · exact htap
              · exact hzr
              · exact fun h' => (how (by simpa [also] using h'))
              · exact fun h => by simp [also, *] at h
              · exact fun h => by simp [also, *] at h
              · exact (hbx).of_eq (by simp [also, *])
            · intro D a w' K hClo hk0 hd hJ hK
              change D 4 = false at hk0
              obtain ⟨lb, A2, cv2, rfl, htap, hzr, how, hli, hnw, hbx⟩ := hJ
              have n5 : D 5 = false := hClo.no 5 rfl (k := 4) (by decide) hk0
              have n10 : D 10 = false := hClo.no 10 rfl (k := 4) (by decide) hk0
              have n11 : D 11 = false := hClo.no 11 rfl (k := 4) (by decide) hk0
              have n6 : D 6 = false := hClo.no 6 rfl (k := 5) (by decide) n5
              have n7 : D 7 = false := hClo.no 7 rfl (k := 6) (by decide) n6
              have n8 : D 8 = false := hClo.no 8 rfl (k := 7) (by decide) n7
              have n9 : D 9 = false := hClo.no 9 rfl (k := 8) (by decide) n8
              clear hClo hd
              simp only [upd, Act.put, List.setIfInBounds_toArray, List.set_cons_zero, List.set_cons_succ]
              go_wp2_with fail
              refine hK _ _ ⟨lb, A2, cv2, ?_, ?_, ?_, ?_, ?_, ?_, ?_⟩
              · clear hK
                simp [upd, Act.put, also, *]
              · exact htap
              · exact hzr
              · exact fun h' => (how (by simpa [also] using h'))
              · exact fun h => by simp [also, *] at h
              · exact fun h => by simp [also, *] at h
              · exact (hbx).of_eq (by simp [also, *])
            · intro D a w' K hClo hk0 hd hJ hK
              change D 5 = false at hk0
              obtain ⟨lb, A2, cv2, rfl, htap, hzr, how, hli, hnw, hbx⟩ := hJ
              have e4 : D 4 = true := hd 4 (by decide)
              have n6 : D 6 = false := hClo.no 6 rfl (k := 5) (by decide) hk0
              have n10 : D 10 = false := hClo.no 10 rfl (k := 5) (by decide) hk0
              have n11 : D 11 = false := hClo.no 11 rfl (k := 5) (by decide) hk0
              have n7 : D 7 = false := hClo.no 7 rfl (k := 6) (by decide) n6
              have n8 : D 8 = false := hClo.no 8 rfl (k := 7) (by decide) n7
              have n9 : D 9 = false := hClo.no 9 rfl (k := 8) (by decide) n8
              clear hClo hd
              simp only [upd, Act.put, List.setIfInBounds_toArray, List.set_cons_zero, List.set_cons_succ, e4]
              go_wp2_with fail
              refine hK _ _ ⟨lb, A2, cv2, ?_, ?_, ?_, ?_, ?_, ?_, ?_⟩
              · clear hK
                simp [upd, Act.put, also, *]
              · exact htap
              · exact hzr
              · exact fun h' => (how (by simpa [also] using h'))
              · exact fun h => by simp [also, *] at h
              · exact fun h => by simp [also, *] at h
              · exact (hbx).of_eq (by simp [also, *])
            · intro D a w' K hClo hk0 hd hJ hK
              change D 6 = false at hk0
              obtain ⟨lb, A2, cv2, rfl, htap, hzr, how, hli, hnw, hbx⟩ := hJ
              have e2 : D 2 = true := hd 2 (by decide)
              have e3 : D 3 = true := hd 3 (by decide)
              have e5 : D 5 = true := hd 5 (by decide)
              have n7 : D 7 = false := hClo.no 7 rfl (k := 6) (by decide) hk0
              have n10 : D 10 = false := hClo.no 10 rfl (k := 6) (by decide) hk0
              have n11 : D 11 = false := hClo.no 11 rfl (k := 6) (by decide) hk0
              have n8 : D 8 = false := hClo.no 8 rfl (k := 7) (by decide) n7
              have n9 : D 9 = false := hClo.no 9 rfl (k := 8) (by decide) n8
              clear hClo hd
              simp only [upd, Act.put, List.setIfInBounds_toArray, List.set_cons_zero, List.set_cons_succ, e2, e3, e5]
              go_wp2_with fail
              refine hK _ _ ⟨lb, A2, cv2, ?_, ?_, ?_, ?_, ?_, ?_, ?_⟩
              · clear hK
                simp [upd, Act.put, also, *]
              · exact htap
              · exact hzr
              · exact fun h' => (how (by simpa [also] using h'))
              · exact fun h => by simp [also, *] at h
              · exact fun h => by simp [also, *] at h
              · exact (hbx).of_eq (by simp [also, *])
            · intro D a w' K hClo hk0 hd hJ hK
              change D 7 = false at hk0
              obtain ⟨lb, A2, cv2, rfl, htap, hzr, how, hli, hnw, hbx⟩ := hJ
              have e6 : D 6 = true := hd 6 (by decide)
              have n8 : D 8 = false := hClo.no 8 rfl (k := 7) (by decide) hk0
              have n10 : D 10 = false := hClo.no 10 rfl (k := 7) (by decide) hk0
              have n11 : D 11 = false := hClo.no 11 rfl (k := 7) (by decide) hk0
              have n9 : D 9 = false := hClo.no 9 rfl (k := 8) (by decide) n8
              clear hClo hd
              simp only [upd, Act.put, List.setIfInBounds_toArray, List.set_cons_zero, List.set_cons_succ, e6]
              go_wp2_with fail
              refine hK _ _ ⟨lb, A2, cv2, ?_, ?_, ?_, ?_, ?_, ?_, ?_⟩
              · clear hK
                simp [upd, Act.put, also, *]
              · exact htap
              · exact hzr
              · exact fun h' => (how (by simpa [also] using h'))
              · exact fun h => by simp [also, *] at h
              · exact fun h => by simp [also, *] at h
              · exact (hbx).of_eq (by simp [also, *])
            · intro D a w' K hClo hk0 hd hJ hK
              change D 8 = false at hk0
              obtain ⟨lb, A2, cv2, rfl, htap, hzr, how, hli, hnw, hbx⟩ := hJ
              have e7 : D 7 = true := hd 7 (by decide)
              have n9 : D 9 = false := hClo.no 9 rfl (k := 8) (by decide) hk0
              have n10 : D 10 = false := hClo.no 10 rfl (k := 8) (by decide) hk0
              have n11 : D 11 = false := hClo.no 11 rfl (k := 8) (by decide) hk0
              clear hClo hd
              simp only [upd, Act.put, List.setIfInBounds_toArray, List.set_cons_zero, List.set_cons_succ, e7]
              go_wp2_with fail
              refine hK _ _ ⟨w'.heap.size, A2, cv2, ?_, ?_, ?_, ?_, ?_, ?_, ?_⟩
              · clear hK
                simp [upd, Act.put, also, *]
              · exact htap.alloc _
              · exact hzr.alloc _
              · exact fun h' => (how (by simpa [also] using h')).alloc _
              · exact fun _ _ => Has.new htap.size 57 _
              · exact fun h => by simp [also, *] at h
              · exact (hbx.alloc _).of_eq (by simp [also, *])
            · intro D a w' K hClo hk0 hd hJ hK
              change D 9 = false at hk0
              obtain ⟨lb, A2, cv2, rfl, htap, hzr, how, hli, hnw, hbx⟩ := hJ
              have e1 : D 1 = true := hd 1 (by decide)
              have e8 : D 8 = true := hd 8 (by decide)
              have n10 : D 10 = false := hClo.no 10 rfl (k := 9) (by decide) hk0
              have n11 : D 11 = false := hClo.no 11 rfl (k := 9) (by decide) hk0
              clear hClo hd
              have how1 := how hk0
              have hli1 := hli e8 hk0
              have hsz := htap.size
              have How := hide how1
              have Hli := hide hli1
              have Htap := hide htap
              have Hzr := hide hzr
              have Hbx := hide hbx
              clear how1 hli1 how hli htap hzr hbx
              simp only [upd, Act.put, List.setIfInBounds_toArray, List.set_cons_zero, List.set_cons_succ, e1, e8]
              go_wp2_with (at_builtin
                           refine wpList_append_any _ rfl _ _ _ rfl wz.heap.size 57 i0 _ 2 32 Tryd.underlying48 hi hz0 hz1 hz2 rfl (by omega) _ (2 + k) _ rfl How.out.o (lb + 1) (some ⟨lb, 0, none⟩) 1 1 _ rfl (reads_blk Hli.out.blk (Nat.lt_succ_self _) 2 rfl) (by simp [Value.oneCell']) (by unfold maxLen; omega) (by omega) hsz ?_
                           intro v1 w2 hown hg _
                           obtain ⟨A1, c1, rfl, hnc1, _⟩ := own_form hown
                           have Hown := hide hown
                           have Hg := hide hg
                           clear hown hg)
              refine hK _ _ ⟨lb, A1, c1, ?_, ?_, ?_, ?_, ?_, ?_, ?_⟩
              · clear hK
                simp [upd, Act.put, also, *]
              · exact ⟨Htap.out.tape.far Hg.out (fun e => by have := own_block_ge How.out.o g e; omega) (fun x hx => by have := own_block_ge How.out.o x hx; omega), grownBy_own' Htap.out.grow How.out.o Hg.out, Htap.out.lt⟩
              · exact Hzr.out.grownrow Hg.out (fun e => own_blk_ne How.out.o Hzr.out.blk (by decide) e.symm)
              · exact fun h => by simp [also] at h
              · exact fun _ h => by simp [also] at h
              · exact fun _ => ⟨Hown.out⟩
              · exact (Hbx.out.grownrow Hg.out (fun e => own_blk_ne How.out.o Hbx.out.blk (by decide) e.symm)).of_eq (by simp [also, *])
            · intro D a w' K hClo hk0 hd hJ hK
              change D 10 = false at hk0
              obtain ⟨lb, A2, cv2, rfl, htap, hzr, how, hli, hnw, hbx⟩ := hJ
              have e0 : D 0 = true := hd 0 (by decide)
              have e1 : D 1 = true := hd 1 (by decide)
              have e2 : D 2 = true := hd 2 (by decide)
              have e3 : D 3 = true := hd 3 (by decide)
              have e4 : D 4 = true := hd 4 (by decide)
              have e5 : D 5 = true := hd 5 (by decide)
              have e6 : D 6 = true := hd 6 (by decide)
              have e7 : D 7 = true := hd 7 (by decide)
              have e8 : D 8 = true := hd 8 (by decide)
              have e9 : D 9 = true := hd 9 (by decide)
              have n11 : D 11 = false := hClo.no 11 rfl (k := 10) (by decide) hk0
              clear hClo hd
              simp only [upd, Act.put, List.setIfInBounds_toArray, List.set_cons_zero, List.set_cons_succ, e0, e1, e2, e3, e4, e5, e6, e7, e8, e9]
              go_wp2_with fail
              refine hK _ _ ⟨lb, A2, cv2, ?_, ?_, ?_, ?_, ?_, ?_, ?_⟩
              · clear hK
                simp [upd, Act.put, also, *]
              · exact htap
              · exact hzr
              · exact fun h' => (how (by simpa [also] using h'))
              · exact fun h h' => (hli (by simpa [also] using h) (by simpa [also] using h'))
              · exact fun h => (hnw (by simpa [also] using h))
              · exact (hbx).of_eq (by simp [also, *])
            · intro D a w' K hClo hk0 hd hJ hK
              change D 11 = false at hk0
              obtain ⟨lb, A2, cv2, rfl, htap, hzr, how, hli, hnw, hbx⟩ := hJ
              have e0 : D 0 = true := hd 0 (by decide)
              have e1 : D 1 = true := hd 1 (by decide)
              have e2 : D 2 = true := hd 2 (by decide)
              have e3 : D 3 = true := hd 3 (by decide)
              have e4 : D 4 = true := hd 4 (by decide)
              have e5 : D 5 = true := hd 5 (by decide)
              have e6 : D 6 = true := hd 6 (by decide)
              have e7 : D 7 = true := hd 7 (by decide)
              have e8 : D 8 = true := hd 8 (by decide)
              have e9 : D 9 = true := hd 9 (by decide)
              have e10 : D 10 = true := hd 10 (by decide)
              clear hClo hd
              have hb1 : Has wz w' pb 50 #[.string id, .string cd, .string br, .int .i64 d, .int .i64 m, .int .i64 am, .slice Av (2 + k) cv] := hbx.of_eq (by rw [hk0]; rfl)
              have hge := hb1.ge
              have hne := own_blk_ne (hnw e9).o hb1.blk (by decide)
              have c6 := hb1.cell 6
              have f6 := hb1.frozen 6
              simp only [List.getElem?_toArray, List.getElem?_cons_zero, List.getElem?_cons_succ] at c6
              have Hb := hide hb1
              have Hne := hide hne
              clear hb1 hbx hne
              simp only [upd, Act.put, List.setIfInBounds_toArray, List.set_cons_zero, List.set_cons_succ, e0, e1, e2, e3, e4, e5, e6, e7, e8, e9, e10]
              go_wp2_with fail
              refine hK _ _ ⟨lb, A2, cv2, ?_, ?_, ?_, ?_, ?_, ?_, ?_⟩
              · clear hK
                simp [upd, Act.put, also, *]
              · exact htap.far hge _
              · exact hzr.far (by show pb ≠ _; omega) _
              · exact fun h => by simp [also, *] at h
              · exact fun _ h => by simp [also, *] at h
              · exact fun _ => (hnw e9).far Hne.out _
              · exact (Hb.out.set_ 6 _).of_eq (by simp [also])
          · intro D a' w5 hall hJ
            obtain ⟨lb, A2, cv2, rfl, htap, hzr, how, hli, hnw, hbx⟩ := hJ
            have e0 : D 0 = true := hall 0 (by decide)
            have e1 : D 1 = true := hall 1 (by decide)
            have e2 : D 2 = true := hall 2 (by decide)
            have e3 : D 3 = true := hall 3 (by decide)
            have e4 : D 4 = true := hall 4 (by decide)
            have e5 : D 5 = true := hall 5 (by decide)
            have e6 : D 6 = true := hall 6 (by decide)
            have e7 : D 7 = true := hall 7 (by decide)
            have e8 : D 8 = true := hall 8 (by decide)
            have e9 : D 9 = true := hall 9 (by decide)
            have e10 : D 10 = true := hall 10 (by decide)
            have e11 : D 11 = true := hall 11 (by decide)
            clear hall
            clear how
            clear hli
            replace hnw := hnw e9
            replace hbx : Has wz w5 pb 50 #[.string id, .string cd, .string br, .int .i64 d, .int .i64 m, .int .i64 am, .slice A2 (2 + k + 1) cv2] := hbx.of_eq (by simp [*])
            simp only [upd, Act.put, List.setIfInBounds_toArray, List.set_cons_zero, List.set_cons_succ, sel_true, e0, e1, e2, e3, e4, e5, e6, e7, e8, e9, e10]
            clear e0 e1 e2 e3 e4 e5 e6 e7 e8 e9 e10 e11
            have hl9 : Hid ((N ++ [(((⟨#[97, 98, 99, 100, 101, 102, 103, 104, 105, 106, 107, 108, 109, 110, 111, 112, 113, 114, 115, 116, 117, 118, 119, 120, 121, 122]⟩ : ByteArray).extract k (k + 2), ⟨#[118]⟩) : Lk)]).length = 2 + (k + 1)) := by show (N ++ [_]).length = 2 + (k + 1); rw [List.length_append, HNl.out]; rfl
            have hs9 : Hid (∀ r ∈ N ++ [(((⟨#[97, 98, 99, 100, 101, 102, 103, 104, 105, 106, 107, 108, 109, 110, 111, 112, 113, 114, 115, 116, 117, 118, 119, 120, 121, 122]⟩ : ByteArray).extract k (k + 2), ⟨#[118]⟩) : Lk)], r.1.size ≤ 30 ∧ r.2.size ≤ 30) := fun r hr => by
              rcases List.mem_append.1 hr with h | h
              · exact HNs.out r h
              · obtain rfl := List.mem_singleton.1 h
                exact ⟨by show ((⟨#[97, 98, 99, 100, 101, 102, 103, 104, 105, 106, 107, 108, 109, 110, 111, 112, 113, 114, 115, 116, 117, 118, 119, 120, 121, 122]⟩ : ByteArray).extract k (k + 2)).size ≤ 30; rw [ByteArray.size_extract]; omega, (by decide : (1 : Nat) ≤ 30)⟩
            have ho9 : Hid (Owns w5 wz.heap.size 57 2 (.slice A2 (2 + (k + 1)) cv2) (2 + (k + 1)) ((N ++ [(((⟨#[97, 98, 99, 100, 101, 102, 103, 104, 105, 106, 107, 108, 109, 110, 111, 112, 113, 114, 115, 116, 117, 118, 119, 120, 121, 122]⟩ : ByteArray).extract k (k + 2), ⟨#[118]⟩) : Lk)]).flatMap lc)) := by
              rw [List.flatMap_append]
              exact hnw
            have hk9 := hide hbx
            have hz9 := hide hzr
            have ht9 := hide htap
            clear hnw hbx hzr htap
            go_wp2_with fail
            go_roundw
            case rel => exact ⟨k + 1, N ++ [(((⟨#[97, 98, 99, 100, 101, 102, 103, 104, 105, 106, 107, 108, 109, 110, 111, 112, 113, 114, 115, 116, 117, 118, 119, 120, 121, 122]⟩ : ByteArray).extract k (k + 2), ⟨#[118]⟩) : Lk)], A2, cv2, by omega, by go_num, hl9, hs9, ho9, hk9, hz9, ht9⟩
            case measure => simp [intOf]; omega
        · obtain rfl : k = 9 + z := by omega
          go_wp2_with fail
          go_meet
          refine ⟨⟨id, cd, br, d, m, am⟩, Av, 2 + (9 + z), cv, N, HK.out, RowL.of_own HO.out.o HNl.out rfl, by omega, ?_, hcs, hbs, HNs.out, HT.out.more (by omega), HZ.out⟩
          obtain ⟨_, _, e, h1, _⟩ := own_form HO.out.o
          injection e with _ _ e
          omega
    · go_wp2_with fail
      go_meet
      exact spo_mk (p := ⟨id, cd, br, d, m, am⟩) HBX.out rfl HRW.out hLl HLs.out ⟨hcs, hbs⟩ HTAP.out (by omega) HZR.out
    · go_wp2_with fail
      go_meet
      exact spo_mk (p := ⟨id, cd, br, d, m, am⟩) HBX.out rfl HRW.out hLl HLs.out ⟨hcs, hbs⟩ HTAP.out (by omega) HZR.out
  case rest =>
    obtain ⟨⟨i1, i2, i3, d1, m1, am1⟩, A1, n1, c1, L1, hb, hr, hn14, hnc, h2, h3, hs, ht5, hz5⟩ := hcut
    simp only at h2 h3
    simp only [pv] at hb
    have hnr : ∀ b', A1 = some ⟨b', 0, none⟩ → 0 < n1 → b' ≠ wz.heap.size := fun b' e h0 => by
      exact hr.ne_ h0 hz5.blk (by decide) b' e
    have v0 := hb.cell 0
    have v1 := hb.cell 1
    have v2 := hb.cell 2
    have v3 := hb.cell 3
    have v4 := hb.cell 4
    have v5 := hb.cell 5
    have v6 := hb.cell 6
    have o0 := hz5.cell 0
    have o1 := hz5.cell 1
    have o2 := hz5.cell 2
    have o3 := hz5.cell 3
    have o4 := hz5.cell 4
    have o5 := hz5.cell 5
    have o6 := hz5.cell 6
    have f0 := hz5.frozen 0
    have f1 := hz5.frozen 1
    have f2 := hz5.frozen 2
    have f3 := hz5.frozen 3
    have f4 := hz5.frozen 4
    have f5 := hz5.frozen 5
    have f6 := hz5.frozen 6
    simp only [List.getElem?_toArray, List.getElem?_cons_zero, List.getElem?_cons_succ] at v0 v1 v2 v3 v4 v5 v6 o0 o1 o2 o3 o4 o5 o6
    have hne : pb ≠ wz.heap.size := by omega
    have hne2 : wz.heap.size ≠ pb := by omega
    have H1 := hide hr
    have H2 := hide ht5
    have H3 := hide hnr
    have H4 := hide hs
    clear hb hz5 hr ht5 hnr hs HLs HRW HOW HBX HZR HTAP
    go_wp2_with fail
    refine bodyPost_ret (v := .agg (pv ⟨i1, i2, i3, d1, m1, am1⟩ (.slice A1 n1 c1))) (by simp [results, Tryd.results34, go_sem, pv, o0, o1, o2, o3, o4, o5, o6]) rfl ?_
    refine ⟨⟨i1, i2, i3, d1, m1, am1⟩, A1, n1, c1, L1, rfl, ?_, hn14, hnc, h2, h3, H4.out, ?_⟩
    · refine rowl_far7 ?_ H3.out _ _ _ _ _ _ _
      exact H1.out
    · iterate 7 (refine Tap.far ?_ (Nat.le_refl _) _)
      exact H2.out
end Go.Proofs.YtjgbadopladmdaaDoor
