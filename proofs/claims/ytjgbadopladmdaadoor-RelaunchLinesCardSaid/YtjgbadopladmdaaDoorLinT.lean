/- slices.SortFunc of a row of lines by the closure that compares their first IDs. -/
import Derived.Test.YtjgbadopladmdaaDoorShelfF
import Derived.Test.YtjgbadopladmdaaDoorLinR
import Derived.Test.YtjgbadopladmdaaDoorLinK
namespace Go.Proofs.YtjgbadopladmdaaDoor
open Go.RowKit Go.Sort Go.Lib

theorem enters70 : ∀ args w, (callFunc 70 args).run Tryd.prog w = .ok (.enter 70 args) w := enters_of Tryd.func70 (by kernel_rfl) rfl

theorem nodup_at {α β : Type} {f : α → β} : ∀ {l : List α}, (l.map f).Nodup → ∀ {a b : α}, a ∈ l → b ∈ l → f a = f b → a = b
  | [], _, _, _, ha, _, _ => by cases ha
  | c :: l, h, a, b, ha, hb, e => by
    rw [List.map_cons, List.nodup_cons] at h
    rcases List.mem_cons.1 ha with rfl | ha' <;> rcases List.mem_cons.1 hb with rfl | hb'
    · rfl
    · exact absurd (List.mem_map.2 ⟨b, hb', e.symm⟩) h.1
    · exact absurd (List.mem_map.2 ⟨a, ha', e⟩) h.1
    · exact nodup_at h.2 ha' hb' e

section
variable {zs : List (Value × List ByteArray)}
def lenc (p : {p // p ∈ zs}) : Value := p.1.1

theorem cmp_lays [Inhabited {p // p ∈ zs}] {w : World} {base g n cap : Nat} (hown : w.ownsRow base 62 1 (.slice (some ⟨g, 0, none⟩) n cap) n (zs.map (·.1))) (hl : ∀ p ∈ zs, LineV w base p ∧ 0 < p.2.length) (sz : Nat) :
    CmpLays1 Tryd.prog 70 #[] (lenc (zs := zs)) cmpL g 0 sz w := by
  refine CmpReads.lays ?_
  intro m os dk _ x y
  obtain ⟨x, hx⟩ := x
  obtain ⟨y, hy⟩ := y
  have hg := grown_sortw (enc := lenc (zs := zs)) (w := w) (g := g) (n := m) (os := os) dk
  have h1 := ((hl x hx).1.row hown hg).head (hl x hx).2
  have h2 := ((hl y hy).1.row hown hg).head (hl y hy).2
  obtain ⟨g1, c1, e1, _, a1⟩ := h1
  obtain ⟨g2, c2, e2, _, a2⟩ := h2
  have h3 := clos70_any g1 g2 x.2.length y.2.length c1 c2 (Rel.fst x.2) (Rel.fst y.2) (sortWorld (lenc (zs := zs)) w g 0 m dk os) (hl x hx).2 (hl y hy).2 a1 a2
  rw [← e1, ← e2] at h3
  exact h3

theorem lenc_one [Inhabited {p // p ∈ zs}] {w : World} {base : Nat} (hl : ∀ p ∈ zs, LineV w base p ∧ 0 < p.2.length) : OneCell (lenc (zs := zs)) := fun p => one_line (hl p.1 p.2).1
end

theorem attach_fst (zs : List (Value × List ByteArray)) : zs.attach.map (lenc (zs := zs)) = zs.map (·.1) := by
  have : (lenc (zs := zs)) = (fun v : Value × List ByteArray => v.1) ∘ Subtype.val := rfl
  rw [this, ← List.map_map, List.attach_map_subtype_val]

theorem sorts_lines : SortsLines := by
  intro A n c base zs w hown hzn hn hl hnd hB
  subst hzn
  rcases hown.2 with ⟨h0, hx⟩ | ⟨g, cap, cur, hv, hbase, hb, h1, h2, h3, h4⟩
  · injection h0 with a1 a2 a3
    subst a1 a3
    have hzs : zs = [] := List.length_eq_zero_iff.1 a2
    subst hzs
    refine (AnyF.slices_SortFunc_none { Tryd.sortL with } none 0 _ w).mono ?_
    rintro e w' ⟨rfl, rfl⟩
    exact ⟨rfl, [], by simpa using hown, rfl, fun p => Iff.rfl, fun p hp => (hl p hp).1, List.Pairwise.nil, Below.refl _ _⟩
  · injection hv with a1 a2 a3
    subst a1 a3
    have hg : g < w.heap.size := (Array.getElem?_eq_some_iff.1 hb).1
    rcases Nat.eq_zero_or_pos zs.length with hz | hz
    · have hzs : zs = [] := List.length_eq_zero_iff.1 hz
      subst hzs
      refine (AnyF.slices_SortFunc_none { Tryd.sortL with } _ c _ w).mono ?_
      rintro e w' ⟨rfl, rfl⟩
      exact ⟨rfl, [], by simpa using hown, rfl, fun p => Iff.rfl, fun p hp => (hl p hp).1, List.Pairwise.nil, Below.refl _ _⟩
    · haveI : Inhabited {p // p ∈ zs} := ⟨⟨zs[0], List.getElem_mem hz⟩⟩
      have hH : Holds (lenc (zs := zs)) w g 0 zs.attach.toArray := holds_own hb (by rw [List.length_attach, attach_fst]; simpa using h4)
      have hT : ∀ x y : {p // p ∈ zs}, ltOf cmpL x y = false → ltOf cmpL y x = false → x = y := fun x y hxy hyx => by
        rw [ltOf_cmpL] at hxy hyx
        simp only [decide_eq_false_iff_not, List.not_lt] at hxy hyx
        exact Subtype.ext (nodup_at hnd x.2 y.2 (List.le_antisymm hyx hxy))
      have hcon := Any.slices_SortFunc_total Tryd.sortL (lenc (zs := zs)) (lenc_one hl) cmpL swo_cmpL 70 #[] g 0 c zs.attach.toArray w enters70 (cmp_lays hown hl _) hH hg (by simp; omega) hT
      have hcon' : Calls Tryd.prog 69 #[.slice (some ⟨g, 0, none⟩) zs.length c, .func (.func 70) #[] #[]] w fun e w' => e = .returned (.tuple #[]) ∧ ∃ n os, w' = sortWorld (lenc (zs := zs)) w g 0 n (zs.attach.mergeSort fun x y => !ltOf cmpL y x).toArray os := by
        have h := hcon
        rw [List.size_toArray, List.length_attach] at h
        exact h
      refine hcon'.mono ?_
      rintro e w' ⟨rfl, m, os, rfl⟩
      generalize hts : (zs.attach.mergeSort fun x y => !(ltOf cmpL) y x) = ts
      have hperm : ts.Perm zs.attach := by rw [← hts]; exact List.mergeSort_perm _ _
      have htl : ts.length = zs.length := by rw [hperm.length_eq, List.length_attach]
      have hgr := grown_sortw (enc := lenc (zs := zs)) (w := w) (g := g) (n := m) (os := os) ts.toArray
      have hmem : ∀ p, p ∈ ts.map Subtype.val ↔ p ∈ zs := fun p => by
        rw [(hperm.map Subtype.val).mem_iff, List.attach_map_subtype_val]
      refine ⟨rfl, ts.map Subtype.val, ?_, by rw [List.length_map, htl], hmem, fun p hp => (hl p ((hmem p).1 hp)).1.row hown hgr, ?_, (Below.refl base w).grown hgr hB (fun x hx => by have := Option.some.inj hx; omega)⟩
      · have h := own_sortw (enc := lenc (zs := zs)) (n := m) (os := os) htl hbase hb h1 h2 h3
        rw [List.map_map]
        exact h
      · have hs : ts.Pairwise (fun x y => (!(ltOf cmpL) y x) = true) := by
          rw [← hts]
          refine List.pairwise_mergeSort (fun a b c h1 h2 => ?_) (fun a b => ?_) _
          · simp only [ltOf_cmpL, Bool.not_eq_true', decide_eq_false_iff_not, List.not_lt] at h1 h2 ⊢
            exact List.le_trans h1 h2
          · simp only [ltOf_cmpL, Bool.or_eq_true, Bool.not_eq_true', decide_eq_false_iff_not, List.not_lt]
            exact List.le_total _ _
        have hd : (ts.map fun p => fk p.1).Nodup := by
          have h := (hperm.map (fun p => fk p.1)).nodup_iff.2
          refine h ?_
          have e1 : zs.attach.map (fun p => fk p.1) = zs.map fk := by
            have : (fun p : {p // p ∈ zs} => fk p.1) = fk ∘ Subtype.val := rfl
            rw [this, ← List.map_map, List.attach_map_subtype_val]
          rw [e1]
          exact hnd
        rw [List.Nodup, List.pairwise_map] at hd
        rw [List.map_map, List.pairwise_map]
        refine (hs.and hd).imp ?_
        rintro x y ⟨h1, h2⟩
        simp only [ltOf_cmpL, Bool.not_eq_true', decide_eq_false_iff_not, List.not_lt] at h1
        show fk x.1 < fk y.1
        exact Classical.byContradiction fun hge => h2 (List.le_antisymm h1 (List.not_lt.1 hge))
end Go.Proofs.YtjgbadopladmdaaDoor
