/- The walks of both Keys: one and the same text. -/
import Derived.Test.YtjgbadopladmdaaDoorRNormW
import Derived.Test.YtjgbadopladmdaaDoorShelfJ
namespace Go.Proofs.YtjgbadopladmdaaDoor
open Go.RowKit
open Rel (Lk)

/-- an attribute as a word, its bytes -/
def attB (r : Lk) : List UInt8 := (r.1.data.toList ++ [61]) ++ r.2.data.toList
def attS (r : Lk) : ByteArray := (r.1 ++ (⟨#[61]⟩ : ByteArray)) ++ r.2
theorem app_list (a b : ByteArray) : (a ++ b).data.toList = a.data.toList ++ b.data.toList := by rw [ByteArray.data_append, Array.toList_append]
theorem attS_list (r : Lk) : (attS r).data.toList = attB r := by unfold attS attB; rw [app_list, app_list]
theorem bytes_ext {a b : ByteArray} (h : a.data.toList = b.data.toList) : a = b := by
  cases a with | mk a => cases b with | mk b => congr 1; exact Array.toList_inj.1 h
/-- the key's bytes -/
def keyL (cd br : ByteArray) (M : List Lk) : List UInt8 := cd.data.toList ++ Lib.joinTail [124] (br.data.toList :: M.map attB)
def keyS (cd br : ByteArray) (M : List Lk) : ByteArray := ⟨(keyL cd br M).toArray⟩
def keyW (cd br : ByteArray) (M : List Lk) : List ByteArray := cd :: br :: M.map attS
theorem key_join (cd br : ByteArray) (M : List Lk) : Lib.join ((keyW cd br M).map (·.data.toList)) [124] = keyL cd br M := by
  unfold keyW keyL
  rw [List.map_cons, Lib.join_cons, List.map_cons, List.map_map]
  have e : M.map ((fun x : ByteArray => x.data.toList) ∘ attS) = M.map attB := List.map_congr_left fun r _ => attS_list r
  rw [e]
theorem key_start (cd br : ByteArray) : cd ++ (⟨#[124]⟩ : ByteArray) ++ br = keyS cd br [] := by
  refine bytes_ext ?_
  rw [app_list, app_list]
  show _ = keyL cd br []
  unfold keyL Lib.joinTail
  simp
theorem key_next (cd br : ByteArray) {M : List Lk} {k : Nat} {r : Lk} (h : M[k]? = some r) : ((((keyS cd br (M.take k)) ++ (⟨#[124]⟩ : ByteArray)) ++ r.1) ++ (⟨#[61]⟩ : ByteArray)) ++ r.2 = keyS cd br (M.take (k + 1)) := by
  refine bytes_ext ?_
  rw [app_list, app_list, app_list, app_list]
  show ((((keyL cd br (M.take k)) ++ _) ++ _) ++ _) ++ _ = keyL cd br (M.take (k + 1))
  unfold keyL Lib.joinTail
  rw [Srt.take_snoc' h]
  simp [attB]
theorem keyL_len (cd br : ByteArray) (hc : cd.size ≤ 1000) (hb : br.size ≤ 1000) : ∀ (M : List Lk), (∀ r ∈ M, r.1.size ≤ 1000 ∧ r.2.size ≤ 1000) → (keyL cd br M).length ≤ 2001 + M.length * 2002 := by
  intro M hM
  unfold keyL
  rw [List.length_append, Lib.joinTail_length]
  have h1 : cd.data.toList.length ≤ 1000 := by simpa using hc
  have h2 : br.data.toList.length ≤ 1000 := by simpa using hb
  have h3 : ∀ M : List Lk, (∀ r ∈ M, r.1.size ≤ 1000 ∧ r.2.size ≤ 1000) → Lib.lens (M.map attB) ≤ M.length * 2001 := by
    intro M
    induction M with
    | nil => intro _; simp [Lib.lens]
    | cons r M ih =>
      intro h
      have hr := h r List.mem_cons_self
      have ha : (attB r).length ≤ 2001 := by
        unfold attB
        have e1 : r.1.data.toList.length ≤ 1000 := by simpa using hr.1
        have e2 : r.2.data.toList.length ≤ 1000 := by simpa using hr.2
        simp only [List.length_append, List.length_cons, List.length_nil]
        omega
      have := ih (fun x hx => h x (List.mem_cons_of_mem _ hx))
      have e : Lib.lens ((r :: M).map attB) = (attB r).length + Lib.lens (M.map attB) := by simp [Lib.lens]
      rw [e, List.length_cons]
      omega
  have := h3 M hM
  have e : Lib.lens (br.data.toList :: M.map attB) = br.data.toList.length + Lib.lens (M.map attB) := by simp [Lib.lens]
  rw [e]
  simp only [List.length_cons, List.length_nil, List.length_map]
  omega

set_option maxHeartbeats 4000000 in
set_option maxRecDepth 100000 in
theorem rkey_any (p : Pr) (A : Option Addr) (n c B : Nat) (L : List Lk) (w : World) (h : Recs lc 2 w B A n L) (hB : B ≤ w.heap.size) (hn : n ≤ 1000) (hcd : p.cd.size ≤ 1000) (hbr : p.br.size ≤ 1000) (hss : ∀ r ∈ L, r.1.size ≤ 1000 ∧ r.2.size ≤ 1000) :
    Calls Tryd.prog 37 #[.agg (pv p (.slice A n c))] w fun e w' => e = .returned (.string (keyS p.cd p.br (Srt.srt L))) ∧ Below w.heap.size w w' := by
  obtain ⟨id, cd, br, d, m, am⟩ := p
  simp only [pv]
  simp only at hcd hbr
  have f1 : cd.size ≤ 9223372036854775806 := by omega
  have f2 : cd.size + 1 + br.size ≤ 9223372036854775807 := by omega
  have hb1 := (Below.refl w.heap.size w).alloc (Nat.le_refl _) (.cells #[.string id, .string cd, .string br, .int .i64 d, .int .i64 m, .int .i64 am, .slice A n c] 50)
  have hcall := sorted_any A n c B L (w.alloc (.cells #[.string id, .string cd, .string br, .int .i64 d, .int .i64 m, .int .i64 am, .slice A n c] 50)) (h.below (hb1.mono hB)) (by simp; omega) hn
  have hlen : (Srt.srt L).length = n := by rw [Srt.srt_len]; exact h.len.symm
  have HC := hide hcall
  have HB := hide hb1
  have hks := key_start cd br
  have hM : ∀ r ∈ Srt.srt L, r.1.size ≤ 1000 ∧ r.2.size ≤ 1000 := fun r hr => hss r (Srt.mem_srt.1 hr)
  generalize Srt.srt L = M at HC hlen hM ⊢
  have HM := hide hM
  have HL := hide hlen
  clear hcall hb1 hlen hM hss
  go_enter Tryd.func37, Tryd.ntmps37
  go_wp2_with fail
  with_reducible refine HC.out.mono ?_
  rintro e w2 ⟨v2, rfl, hown2, hB2⟩
  obtain ⟨A1, c1, rfl, hnc1, _⟩ := own_form hown2
  have hr := Recs.of_own (f := lc) hown2 HL.out.symm (by omega)
  have hz2 := hB2.size
  have hb2 := HB.out.trans (hB2.mono (by simp))
  have hz3 : w.heap.size ≤ w2.heap.size := hb2.size
  have HB2 := hide hb2
  clear hb2 hB2 hown2 hz2 hks
  go_wp2
  go_loopw [3, 16] (fun o i wr => ∃ k : Nat, k ≤ n ∧ i = .int .i64 k ∧ o = .string (keyS cd br (M.take k)) ∧ Below w2.heap.size w2 wr) (fun _ i _ => n - (intOf i).toNat)
  case atStart => exact ⟨0, Nat.zero_le _, rfl, rfl, Below.refl _ _⟩
  case round =>
    obtain ⟨k, hk, rfl, rfl, hb⟩ := hrel
    have hz4 := hb.size
    by_cases hlt : k < n
    · obtain ⟨ad, x, rfl, hab, hX, c0, cj⟩ := (hr.below hb).at_ lc_len (by omega) hlt
      have c1 := cj 1 (by omega) (by omega)
      have hs := HM.out x (List.mem_of_getElem? hX)
      have ho : (keyS cd br (M.take k)).size ≤ 2001 + 1000 * 2002 := by
        have h1 := keyL_len cd br hcd hbr (M.take k) (fun r hr => HM.out r (List.mem_of_mem_take hr))
        have h2 : (M.take k).length ≤ 1000 := by rw [List.length_take]; omega
        have h3 : (keyS cd br (M.take k)).size = (keyL cd br (M.take k)).length := by simp [keyS, ByteArray.size]
        omega
      have hkn := key_next cd br hX
      obtain ⟨x1, x2⟩ := x
      simp only [lc, List.getElem?_cons_zero, List.getElem?_cons_succ] at c0 c1 hs hkn
      generalize keyS cd br (M.take k) = o at ho hkn ⊢
      clear cj hX
      have g1 : o.size ≤ 9223372036854775806 := by omega
      have g2 : o.size + 1 + x1.size ≤ 9223372036854775807 := by omega
      have g3 : o.size + 1 + x1.size ≤ 9223372036854775806 := by omega
      have g4 : o.size + 1 + x1.size + 1 + x2.size ≤ 9223372036854775807 := by omega
      clear ho hs f1 f2
      go_wp2
      go_roundw
      case rel => exact ⟨k + 1, by omega, by go_num, rfl, hb.alloc hz4 _⟩
      case measure => simp [intOf]; omega
    · obtain rfl : k = n := by omega
      rw [List.take_of_length_le (by have := HL.out; omega)]
      go_wp2
      go_ret
      exact ⟨rfl, HB2.out.trans (hb.mono hz3)⟩
end Go.Proofs.YtjgbadopladmdaaDoor
