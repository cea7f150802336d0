/- The walk of RelaunchLines. -/
import Derived.Test.YtjgbadopladmdaaDoorValidW
import Derived.Test.YtjgbadopladmdaaDoorLinL
namespace Go.Proofs.YtjgbadopladmdaaDoor
open Go.RowKit Rel

/-- what the walk needs of one line -/
structure LineOk (L : List Lk) (l : List ByteArray) : Prop where
  pos : 0 < l.length
  line : ∀ (y : Nat) (id : ByteArray), l[y]? = some id → lineOf L id = fst l
  pair : ∀ (y : Nat) (a b : ByteArray), l[y]? = some a → l[y + 1]? = some b → (a, b) ∈ L
  short : (∀ r ∈ L, r.1.size ≤ 1000 ∧ r.2.size ≤ 1000) → ∀ (y : Nat) (id : ByteArray), l[y]? = some id → id.size ≤ 1000
theorem line_ok {L : List Lk} (he : errno L = 0) {Ls : List (List ByteArray)} (hL : IsLines L Ls) {l : List ByteArray} (hl : l ∈ Ls) : LineOk L l := by
  have hg := (good_of he).1
  obtain ⟨h, hh, rfl⟩ := (hL.mem l).1 hl
  obtain ⟨⟨nx, hnx⟩, hn⟩ := mem_heads.1 hh
  obtain ⟨t, ht⟩ := chain_cons L L.length h
  have hpair : ∀ (y : Nat) (a b : ByteArray), (lineFrom L h)[y]? = some a → (lineFrom L h)[y + 1]? = some b → (a, b) ∈ L := fun y a b ha hb => pair_at ha hb
  refine ⟨by unfold lineFrom; rw [ht]; simp, fun y id hy => ?_, hpair, fun hs y id hy => ?_⟩
  · rw [lineOf_ok he, line_at hg hn hy, fst_lineFrom]
  · rcases y with _ | y
    · unfold lineFrom at hy
      rw [ht] at hy
      have : h = id := by simpa using hy
      rw [← this]
      exact (hs _ hnx).1
    · have hlt := (List.getElem?_eq_some_iff.1 hy).1
      exact (hs _ (hpair y _ id (List.getElem?_eq_getElem (by omega)) hy)).2

/-- whether a relaunch is among the first q -/
def fnd (L : List Lk) (q : Nat) (a b : ByteArray) : Bool := (L.take q).any (fun r => r.1.toList == a.toList && r.2.toList == b.toList)
theorem fnd_next {L : List Lk} {q : Nat} {o m a b : ByteArray} (h : L[q]? = some (o, m)) : fnd L (q + 1) a b = (fnd L q a b || (o.toList == a.toList && m.toList == b.toList)) := by
  unfold fnd
  rw [take_at h, List.any_append]
  simp
theorem fnd_all {L : List Lk} {q : Nat} (hq : q = L.length) {a b : ByteArray} (h : (a, b) ∈ L) : fnd L q a b = true := by
  unfold fnd
  rw [List.take_of_length_le (by omega), List.any_eq_true]
  exact ⟨(a, b), h, by simp⟩

set_option maxHeartbeats 8000000 in
set_option maxRecDepth 100000 in
theorem lines_law (A : Option Addr) (n c B : Nat) (zs : List Int) (w : World) (hr : Reads w B 1 A n (zs.map (Value.int .i64))) (hB : B ≤ w.heap.size) (hn : n ≤ maxLen) :
    Calls Tryd.prog 12 #[.slice A n c] w fun e w' => e = .returned (.bool true) ∧ Below w.heap.size w w' := by
  have ht0 : Tape (w.alloc (.cells #[.slice A n c, .int .i64 0] 34)) B w.heap.size 0 := ⟨A, n, c, 0, zs, Blk.new w 34 _, Nat.le_refl _, hr.alloc hB _, hB, hn⟩
  have hcon := chains_any w.heap.size 0 B _ ht0 (by omega)
  have HC := hide hcon
  clear hcon ht0
  go_enter Tryd.func12, Tryd.ntmps12
  go_wp2_with fail
  with_reducible refine HC.out.mono ?_
  rintro e w2 ⟨v2, J, rfl, hown2, hJn, hJ8, hJl, ht2, hg2⟩
  obtain ⟨A2, c2, rfl, hnc2, hcm2⟩ := own_form hown2
  have hz2 := hg2.size
  rw [World.size_alloc] at hz2
  have hlk := Links.of_chain hown2 (by omega)
  have herr : errno (J.map lk) = 0 := chain_ok hJn (fun a ha => by have := hJ8 a ha; omega) (by omega)
  have hb2 : Below w.heap.size w w2 := ((Below.refl w.heap.size w).alloc (Nat.le_refl _) (.cells #[.slice A n c, .int .i64 0] 34)).grown hg2 (by simp) (fun x hx => by have e : w.heap.size = x := Option.some.inj hx; omega)
  have hlen : J.length = (J.map lk).length := by simp
  generalize hLe : J.map lk = L at hlk herr hlen hown2
  generalize J.length = n2 at hlk hlen hnc2 hJl ⊢
  have Hlen := hide hlen
  have HE := hide herr
  have HL := hide hlk
  have Hb2 := hide hb2
  have hcon2 := lines_any sorts_lines A2 n2 c2 w2.heap.size L w2 hlk (Nat.le_refl _) hnc2
  have HC2 := hide hcon2
  clear hcon2 hLe hown2 hJn hJ8 ht2 hg2 hlen herr hlk hb2 HC
  go_wp2_with fail
  with_reducible refine HC2.out.mono ?_
  rintro e w3 ⟨v3, Ls, rfl, hln, his, hB3⟩
  have hls := his.1 HE.out
  have HLs := hide hls
  have hsm := his.small (by have := Hlen.out; omega)
  obtain ⟨A3, c3, rfl, hR3⟩ := hln.read
  have HR3 := hide hR3
  have hz3 := hB3.size
  have HB3 := hide hB3
  have hsl := hsm.1
  have Hsm := hide hsm.2
  have HL3 := hide (HL.out.below hB3)
  clear hls his hsm hR3 hln hB3 HC2
  go_wp2
  go_loopw [5, 21] (fun cv i wr => ∃ x : Nat, x ≤ Ls.length ∧ i = .int .i64 x ∧ cv = .int .i64 (pairs (Ls.take x) : Nat) ∧ pairs (Ls.take x) ≤ 100000 * x ∧ Below w3.heap.size w3 wr) (fun _ i _ => Ls.length - (intOf i).toNat)
  case atStart => exact ⟨0, Nat.zero_le _, rfl, rfl, Nat.le_refl _, Below.refl _ _⟩
  case round =>
    obtain ⟨x, hx, rfl, rfl, hpx, hb⟩ := hrel
    by_cases hlt : x < Ls.length
    · obtain ⟨ad, al, cl, l, rfl, hab, hl, hcell, hrl⟩ := HR3.out.at_ hlt
      have HOK := hide (line_ok HE.out HLs.out (List.mem_of_getElem? hl))
      have hll := Hsm.out l (List.mem_of_getElem? hl)
      have hpos := HOK.out.pos
      have hpn := pairs_next hl
      have Hpn := hide hpn
      have hcell' := (hb.cell (p := ad.add x) (by rw [block_of_add]; exact hab)).trans hcell
      have Hrl := hide hrl
      obtain ⟨adl, rfl, habl, hcl⟩ := hrl.2 hpos
      have Hcl : Hid (∀ j s, l[j]? = some s → w3.cell? (adl.add j) = some (.string s)) := fun j s hs => hcl j _ (by rw [List.getElem?_map, hs]; rfl)
      have Hl0 : Hid (∀ W, Below w3.heap.size w3 W → W.cell? adl = some (.string (fst l))) := fun W hW => by
        have h0 : l[0]? = some (fst l) := by
          cases l with
          | nil => exact absurd hpos (by simp)
          | cons a t => rfl
        have h1 := Hcl.out 0 (fst l) h0
        have h2 : adl.add 0 = adl := by unfold Addr.add; simp
        rw [h2] at h1
        exact (hW.cell habl).trans h1
      generalize hpe : pairs (Ls.take x) = px at hpx hpn ⊢
      have Hpe := hide hpe
      have hzb := hb.size
      have Hb := hide hb
      clear hcell hcl hrl hpn hpe hb
      go_wp2_with fail
      clear hcell'
      go_loopw [5, 27] (fun cv i wr => ∃ y : Nat, y ≤ l.length ∧ i = .int .i64 y ∧ cv = .int .i64 ((px + (y - 1) : Nat) : Int) ∧ Below w3.heap.size w3 wr) (fun _ i _ => l.length - (intOf i).toNat)
      case atStart => exact ⟨0, Nat.zero_le _, rfl, rfl, Hb.out⟩
      case round =>
        obtain ⟨y, hy, rfl, rfl, hd⟩ := hrel
        obtain ⟨wo, rfl⟩ : ∃ wo : World, wo = wr := ⟨_, rfl⟩
        have hzd := hd.size
        by_cases hlty : y < l.length
        · have hid : l[y]? = some (l[y]'hlty) := List.getElem?_eq_getElem hlty
          generalize (l[y]'hlty) = id at hid
          have hl0 := Hl0.out wo hd
          have hci := (hd.cell (p := adl.add y) (by rw [block_of_add]; exact habl)).trans (Hcl.out y id hid)
          have hcon : ∀ W, Below wo.heap.size wo W → Calls Tryd.prog 28 #[.slice A2 n2 c2, .string id] W fun e w' => e = .returned (.string (fst l)) ∧ Below W.heap.size W w' := fun W hW => by
            have h := line_any A2 n2 c2 w2.heap.size L id W (HL3.out.below ((hd.trans (hW.mono hzd)).mono hz3)) (by have := hW.size; omega) hnc2 (by have := HOK.out.short HL.out.short y id hid; unfold maxLen; omega)
            rwa [HOK.out.line y id hid] at h
          have HCL := hide hcon
          have Hid' := hide hid
          clear hcon hid
          go_upto_region 10 with (fail)
          go_region_with (go_at_call 28; (refine (HCL.out _ (by exact ⟨rfl, rfl, rfl, Nat.le_refl _, fun _ _ => rfl⟩)).mono ?_); rintro e w5 ⟨rfl, hB5⟩; have hd5 : Below w3.heap.size w3 w5 := hd.trans ((show Below wo.heap.size wo w5 from ⟨hB5.os, hB5.tape, hB5.output, hB5.size, hB5.block⟩).mono hzd); have hl5 := Hl0.out w5 hd5; clear hB5)
          all_goals
            have hz5 := hd5.size
            clear hl0 hci HCL
            rcases y with _ | y
            · go_wp2_with fail
              go_roundw
              case rel => exact ⟨1, by omega, by go_num, by first | rfl | simp, hd5⟩
              case measure => simp [intOf]; omega
            · have j0 : (0 : Int) < (y : Int) + 1 := by omega
              have q1 : IntKind.i64.wrap ((px : Int) + (y : Int) + 1) = (px : Int) + (y : Int) + 1 := IntWalk.i64_in _ (by omega)
              have hid0 : l[y]? = some (l[y]'(by omega)) := List.getElem?_eq_getElem _
              generalize (l[y]'(by omega)) = ia at hid0
              have hpr := HOK.out.pair y ia id hid0 Hid'.out
              have Hpr := hide hpr
              have hcc := Hcl.out y ia hid0
              have Hcc := hide hcc
              clear hpr hid0 hcc
              rw [show ((y + 1 : Nat) : Int) = (y : Int) + 1 from rfl, show y + 1 - 1 = y from rfl]
              go_wp2_with fail
              have j1 : (0 : Int) ≤ (y : Int) := by omega
              have j2 : (y : Int) < (l.length : Int) := by omega
              have q2 : IntKind.i64.wrap (y : Int) = y := IntWalk.i64_in _ (by omega)
              have q3 : IntKind.i64.wrap ((y : Int) + 1 - 1) = y := by rw [Int.add_sub_cancel]; exact q2
              go_loopw [10, 45] (fun fv i wr => ∃ q : Nat, q ≤ n2 ∧ i = .int .i64 q ∧ fv = .bool (fnd L q ia id) ∧ Below w5.heap.size w5 wr) (fun _ i _ => n2 - (intOf i).toNat)
              case atStart => exact ⟨0, Nat.zero_le _, rfl, rfl, Below.refl _ _⟩
              case round =>
                obtain ⟨q, hq, rfl, rfl, hf⟩ := hrel
                obtain ⟨wi, rfl⟩ : ∃ wi : World, wi = wr := ⟨_, rfl⟩
                have hzf := hf.size
                have hdf := hd5.trans (hf.mono hz5)
                by_cases hltq : q < n2
                · obtain ⟨adr, o, m, rfl, habr, hLq, r0, r1, _, _⟩ := (HL3.out.below (hdf.mono hz3)).at_ hltq
                  have HLq := hide hLq
                  have hyc := (hdf.cell (p := adl.add y) (by rw [block_of_add]; exact habl)).trans Hcc.out
                  clear hLq
                  go_upto_region 18 with (fail)
                  have hkA := Blk.new wi 74 #[.string o, .string m]
                  have hfA := hf.alloc hzf (.cells #[.string o, .string m] 74)
                  have hyA : (wi.alloc (.cells #[.string o, .string m] 74)).cell? (adl.add y) = some (.string ia) := (World.cell?_alloc_lt wi _ _ (by rw [block_of_add]; omega)).trans hyc
                  generalize wi.alloc (.cells #[.string o, .string m] 74) = wA at hkA hfA hyA ⊢
                  generalize wi.heap.size = ha at hkA ⊢
                  have e0 := hkA.cell 0
                  have e1 := hkA.cell 1
                  simp only [List.getElem?_toArray, List.getElem?_cons_zero, List.getElem?_cons_succ] at e0 e1
                  have HfA := hide hfA
                  have hnx := fnd_next (a := ia) (b := id) HLq.out
                  clear hkA hfA hyc r0 r1 hf hdf
                  cases h1 : (o.toList == ia.toList) with
                  | false =>
                    rw [h1, Bool.false_and, Bool.or_false] at hnx
                    have Hnx := hide hnx
                    clear hnx
                    go_wp2_with fail
                    go_quiet (fail)
                    go_wp2_with fail
                    go_roundw
                    case rel => exact ⟨q + 1, by omega, by go_num, by rw [Hnx.out], below_drewN HfA.out _⟩
                    case measure => simp [intOf]; omega
                  | true =>
                    cases h2 : (m.toList == id.toList) with
                    | false =>
                      rw [h1, h2, Bool.and_false, Bool.or_false] at hnx
                      have Hnx := hide hnx
                      clear hnx
                      go_wp2_with fail
                      go_quiet (fail)
                      go_wp2_with fail
                      go_roundw
                      case rel => exact ⟨q + 1, by omega, by go_num, by rw [Hnx.out], below_drewN HfA.out _⟩
                      case measure => simp [intOf]; omega
                    | true =>
                      rw [h1, h2, Bool.and_true, Bool.or_true] at hnx
                      have Hnx := hide hnx
                      clear hnx
                      go_wp2_with fail
                      go_quiet (fail)
                      go_wp2_with fail
                      go_roundw
                      case rel => exact ⟨q + 1, by omega, by go_num, by rw [Hnx.out], below_drewN HfA.out _⟩
                      case measure => simp [intOf]; omega
                · obtain rfl : q = n2 := by omega
                  rw [fnd_all Hlen.out Hpr.out]
                  go_wp2_with fail
                  go_roundw
                  case rel => exact ⟨y + 1 + 1, by omega, by go_num, congrArg (Value.int .i64) (by omega), hdf⟩
                  case measure => simp [intOf]; omega
        · obtain rfl : y = l.length := by omega
          go_wp2_with fail
          go_roundw
          case rel => exact ⟨x + 1, by omega, by go_num, by rw [Hpn.out, Hpe.out], by rw [Hpn.out, Hpe.out]; omega, hd⟩
          case measure => simp [intOf]; omega
    · obtain rfl : x = Ls.length := by omega
      have hall := pairs_all (good_of HE.out).1 HLs.out
      rw [List.take_of_length_le (Nat.le_refl _), hall, ← Hlen.out]
      have hz := hb.size
      have hw := HB3.out.trans (hb.mono hz3)
      have hv := validate_any A2 n2 c2 w2.heap.size L wr (HL.out.below hw) (by omega) hnc2
      rw [HE.out] at hv
      have HV := hide hv
      have Hw := hide hw
      clear hv hw hall hpx hb
      go_wp2_with fail
      with_reducible refine HV.out.mono ?_
      rintro e w6 ⟨rfl, hB6⟩
      have hz6 := hB6.size
      go_wp2_with (go_at_call 27; with_reducible refine (rawake_any w6).mono ?_; rintro e w8 ⟨rfl, hB8⟩)
      go_ret
      exact ⟨rfl, Hb2.out.trans ((Hw.out.trans ((hB6.trans (hB8.mono hz6)).mono (by omega))).mono (by omega))⟩
end Go.Proofs.YtjgbadopladmdaaDoor
